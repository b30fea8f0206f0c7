/- The abstract machine computes what the plain functions say: printed by lift.py. -/
import Derived.Test.YtikkpmmhejjpaaaEAW0
set_option linter.unusedSimpArgs false
set_option linter.unusedVariables false
namespace Go.Proofs.YtikkpmmhejjpaaaM
open Go Go.RowKit
set_option maxRecDepth 100000 in
set_option maxHeartbeats 4000000 in
theorem W_end_ahead {K : PureK} (k56 : K 56 = some kf_56) (k70 : K 70 = some kf_70) (k71 : K 71 = some kf_71) (n57 : K 57 = none) (m : Nat) (hm : NF + 1 ≤ m) (h : AH) (s_ : List UInt8) (at_ : Int) {r : Gapi_End × Int} (hF : F_end_ahead s_ at_ = some r) :
    AR (acall Try.prog (hooksOf K) (drawnOf Try.prog (tabOf K)) m 57 [.str s_, .int .i64 at_] h) (fun v h' => v = .tup [.agg [.int .i64 r.1.xAt, .int .i64 r.1.xCount, .int .i64 r.1.xSize, .int .i64 r.1.xOffset, .str r.1.xComment, .bool r.1.xWide], .int .i64 r.2]) := by
  obtain ⟨m, rfl⟩ : ∃ k, m = k + 1 := ⟨m - 1, by omega⟩
  refine AR_call (hooksOf_none n57) Try.func57 rfl _ _ fun env hl he => ?_
  have e0 := he 0
  have e1 := he 1
  simp only [List.getD_cons_zero, List.getD_cons_succ] at e0 e1
  simp only [Try.f57] at hl ⊢
  simp only [List.length_cons, List.length_nil, Nat.reduceAdd, Nat.reduceSub] at hl
  clear he
  have S0 : Sep h [] h [] := Sep.nil h
  rw [F_end_ahead] at hF
  try simp only [↓WD, W0, evalOp, Nat.reduceEqDiff, Nat.reduceLT, ↓reduceIte, reduceCtorEq, hl, e0, e1]
  rw [AW_region]
  obtain ⟨i1, h2, oa3, S4⟩ := S0.alloc 62 [.int .i64 0, .int .i64 0, .int .i64 0, .int .i64 0, .str [], .bool false]
  have S6 : Sep h [] h2 [.blk i1 [.int .i64 0, .int .i64 0, .int .i64 0, .int .i64 0, .str [], .bool false] 62] := S4
  refine AE_joinR (fun e h' => h2 = h' ∧ e.length = 76 ∧ e.getD 0 .undef = .str s_ ∧ e.getD 1 .undef = .int .i64 at_ ∧ e.getD 4 .undef = .ptr i1 0) (by
    simp only [↓WE, WA, WL, aop, ofValue, ofCell, isConst, abin, acall1, abuiltin, aun, AV.cells, AV.one, Nat.reduceAdd, Int.reduceLT, Int.reduceLE, ↓WD, W0, evalOp, Nat.reduceEqDiff, Nat.reduceLT, ↓reduceIte, reduceCtorEq, hl, e0, e1, zero_62, oa3]
    exact ⟨rfl, (by simp only [List.length_set, hl]), (by simp only [W0, Nat.reduceEqDiff, Nat.reduceLT, ↓reduceIte, hl, e0, e1]), (by simp only [W0, Nat.reduceEqDiff, Nat.reduceLT, ↓reduceIte, hl, e0, e1]), (by simp only [W0, Nat.reduceEqDiff, Nat.reduceLT, ↓reduceIte, hl, e0, e1])⟩) ?_
  rintro envg7 _ ⟨rfl, hl, e0, e1, e4⟩
  try simp only [↓WD, W0, evalOp, Nat.reduceEqDiff, Nat.reduceLT, ↓reduceIte, reduceCtorEq, hl, e0, e1, e4]
  rw [AW_region]
  refine AE_joinR (fun e h' => h2 = h' ∧ e.length = 76 ∧ e.getD 0 .undef = .str s_ ∧ e.getD 1 .undef = .int .i64 at_ ∧ e.getD 4 .undef = .ptr i1 0 ∧ e.getD 6 .undef = .int .i64 (IntKind.i64.wrap ((IntKind.i64.wrap (at_ - 20)) - 56))) (by
    simp only [↓WE, WA, WL, aop, ofValue, ofCell, isConst, abin, acall1, abuiltin, aun, AV.cells, AV.one, Nat.reduceAdd, Int.reduceLT, Int.reduceLE, ↓WD, W0, evalOp, Nat.reduceEqDiff, Nat.reduceLT, ↓reduceIte, reduceCtorEq, hl, e0, e1, e4]
    exact ⟨rfl, (by simp only [List.length_set, hl]), (by simp only [W0, Nat.reduceEqDiff, Nat.reduceLT, ↓reduceIte, hl, e0, e1, e4]), (by simp only [W0, Nat.reduceEqDiff, Nat.reduceLT, ↓reduceIte, hl, e0, e1, e4]), (by simp only [W0, Nat.reduceEqDiff, Nat.reduceLT, ↓reduceIte, hl, e0, e1, e4]), (by simp only [W0, Nat.reduceEqDiff, Nat.reduceLT, ↓reduceIte, hl, e0, e1, e4])⟩) ?_
  rintro envg8 _ ⟨rfl, hl, e0, e1, e4, e6⟩
  try simp only [↓WD, W0, evalOp, Nat.reduceEqDiff, Nat.reduceLT, ↓reduceIte, reduceCtorEq, hl, e0, e1, e4, e6]
  rw [AW_region]
  obtain ⟨j14, qj14, hF⟩ := obind hF
  refine AE_joinR (fun e h' => e.length = 76 ∧ e.getD 0 .undef = .str s_ ∧ e.getD 4 .undef = .ptr i1 0 ∧ e.getD 6 .undef = .int .i64 (IntKind.i64.wrap ((IntKind.i64.wrap (at_ - 20)) - 56)) ∧ e.getD 21 .undef = .bool j14 ∧ Sep h [] h' [.blk i1 [.int .i64 0, .int .i64 0, .int .i64 0, .int .i64 0, .str [], .bool false] 62]) ?_ ?_
  · simp only [↓WE, WA, WL, aop, ofValue, ofCell, isConst, abin, acall1, abuiltin, aun, AV.cells, AV.one, Nat.reduceAdd, Int.reduceLT, Int.reduceLE, ↓WD, W0, evalOp, Nat.reduceEqDiff, Nat.reduceLT, ↓reduceIte, reduceCtorEq, hl, e0, e1, e4, e6]
    refine GuardW_dec (fun c9 => ?_) (fun c9 => ?_)
    · rw [if_pos c9] at qj14
      have d10 : (decide ((IntKind.i64.wrap ((IntKind.i64.wrap (at_ - 20)) - 56)) < 0)) = true := decide_eq_true c9
      simp only [↓WE, WA, WL, aop, ofValue, ofCell, isConst, abin, acall1, abuiltin, aun, AV.cells, AV.one, Nat.reduceAdd, Int.reduceLT, Int.reduceLE, ↓WD, W0, evalOp, Nat.reduceEqDiff, Nat.reduceLT, ↓reduceIte, reduceCtorEq, hl, e0, e1, e4, e6, d10]
      obtain rfl := Option.some.inj qj14
      exact ⟨(by simp only [List.length_set, hl]), (by simp only [W0, Nat.reduceEqDiff, Nat.reduceLT, ↓reduceIte, hl, e0, e1, e4, e6]), (by simp only [W0, Nat.reduceEqDiff, Nat.reduceLT, ↓reduceIte, hl, e0, e1, e4, e6]), (by simp only [W0, Nat.reduceEqDiff, Nat.reduceLT, ↓reduceIte, hl, e0, e1, e4, e6]), (by simp only [W0, Nat.reduceEqDiff, Nat.reduceLT, ↓reduceIte, hl, e0, e1, e4, e6]), S6⟩
    · rw [if_neg c9] at qj14
      have d11 : (decide ((IntKind.i64.wrap ((IntKind.i64.wrap (at_ - 20)) - 56)) < 0)) = false := decide_eq_false c9
      obtain ⟨y12, qy12, qj14⟩ := obind qj14
      have og13 := fun (D : Drawn) (n : Nat) (g : AH) => call_hook (P := Try.prog) (D := D) k70 n (args := [.str s_, .int .i64 at_]) (v := .bool y12) ((kf_70_eq s_ at_).trans (by rw [qy12]; rfl)) g
      simp only [↓WE, WA, WL, aop, ofValue, ofCell, isConst, abin, acall1, abuiltin, aun, AV.cells, AV.one, Nat.reduceAdd, Int.reduceLT, Int.reduceLE, ↓WD, W0, evalOp, Nat.reduceEqDiff, Nat.reduceLT, ↓reduceIte, reduceCtorEq, hl, e0, e1, e4, e6, og13, d11]
      obtain rfl := Option.some.inj qj14
      exact ⟨(by simp only [List.length_set, hl]), (by simp only [W0, Nat.reduceEqDiff, Nat.reduceLT, ↓reduceIte, hl, e0, e1, e4, e6]), (by simp only [W0, Nat.reduceEqDiff, Nat.reduceLT, ↓reduceIte, hl, e0, e1, e4, e6]), (by simp only [W0, Nat.reduceEqDiff, Nat.reduceLT, ↓reduceIte, hl, e0, e1, e4, e6]), (by simp only [W0, Nat.reduceEqDiff, Nat.reduceLT, ↓reduceIte, hl, e0, e1, e4, e6]), S6⟩
  · rintro envj14 h16 ⟨hl, e0, e4, e6, e21, S15⟩
    try simp only [↓WD, W0, evalOp, Nat.reduceEqDiff, Nat.reduceLT, ↓reduceIte, reduceCtorEq, hl, e0, e4, e6, e21]
    refine CondK_boo (fun c24 => ?_) (fun c24 => ?_)
    · rw [if_pos c24] at hF
      try simp only [↓WD, W0, evalOp, Nat.reduceEqDiff, Nat.reduceLT, ↓reduceIte, reduceCtorEq, hl, e0, e4, e6, e21]
      rw [AW_region]
      obtain ⟨h25, os26, S27⟩ := S15.store (P := Try.prog) 0 rfl (t := 62) (off := 0) (v := .agg [.int .i64 0, .int .i64 0, .int .i64 0, .int .i64 0, .str [], .bool false]) (c' := [.int .i64 0, .int .i64 0, .int .i64 0, .int .i64 0, .str [], .bool false]) rfl sz_62 rfl (by simp) rfl
      have S28 : Sep h [] h25 [.blk i1 [.int .i64 0, .int .i64 0, .int .i64 0, .int .i64 0, .str [], .bool false] 62] := S27
      refine AE_joinR (fun e h' => h25 = h' ∧ e.length = 76 ∧ e.getD 4 .undef = .ptr i1 0 ∧ e.getD 5 .undef = .int .i64 2) (by
        simp only [↓WE, WA, WL, aop, ofValue, ofCell, isConst, abin, acall1, abuiltin, aun, AV.cells, AV.one, Nat.reduceAdd, Int.reduceLT, Int.reduceLE, ↓WD, W0, evalOp, Nat.reduceEqDiff, Nat.reduceLT, ↓reduceIte, reduceCtorEq, hl, e0, e4, e6, e21, bd_62_, os26]
        exact ⟨rfl, (by simp only [List.length_set, hl]), (by simp only [W0, Nat.reduceEqDiff, Nat.reduceLT, ↓reduceIte, hl, e0, e4, e6, e21]), (by simp only [W0, Nat.reduceEqDiff, Nat.reduceLT, ↓reduceIte, hl, e0, e4, e6, e21])⟩) ?_
      rintro envg29 _ ⟨rfl, hl, e4, e5⟩
      try simp only [↓WD, W0, evalOp, Nat.reduceEqDiff, Nat.reduceLT, ↓reduceIte, reduceCtorEq, hl, e4, e5]
      have ol30 := S28.load (P := Try.prog) 0 rfl (t := 62) (off := 0) (v := .agg [.int .i64 0, .int .i64 0, .int .i64 0, .int .i64 0, .str [], .bool false]) (by simp only [apart, ag_62, sz_62]; rfl)
      refine KP_ret (vs := [.agg [.int .i64 0, .int .i64 0, .int .i64 0, .int .i64 0, .str [], .bool false], .int .i64 2]) (by simp only [aresults, aresult, gs, List.length_set, Nat.reduceEqDiff, Nat.reduceLT, ↓reduceIte, hl, e4, e5, ol30]) ?_
      obtain rfl := Option.some.inj hF
      exact rfl
    · rw [if_neg (nf c24)] at hF
      try simp only [↓WD, W0, evalOp, Nat.reduceEqDiff, Nat.reduceLT, ↓reduceIte, reduceCtorEq, hl, e0, e4, e6, e21]
      rw [AW_region]
      obtain ⟨s31, qs31, hF⟩ := obind hF
      have os31 := fun g : AH => sub_str (P := Try.prog) (h := g) (k := .i64) (k' := .i64) Try.underlying9 qs31
      obtain ⟨i32, h33, oa34, S35⟩ := S15.alloc 100 [.str []]
      have S37 : Sep h [] h33 [.blk i1 [.int .i64 0, .int .i64 0, .int .i64 0, .int .i64 0, .str [], .bool false] 62, .blk i32 [.str []] 100] := S35
      obtain ⟨h38, os39, S40⟩ := S37.store (P := Try.prog) 1 rfl (t := 100) (off := 0) (v := .agg [.str s31]) (c' := [.str s31]) rfl sz_100 rfl (by simp) rfl
      have S41 : Sep h [] h38 [.blk i1 [.int .i64 0, .int .i64 0, .int .i64 0, .int .i64 0, .str [], .bool false] 62, .blk i32 [.str s31] 100] := S40
      refine AE_joinR (fun e h' => h38 = h' ∧ e.length = 76 ∧ e.getD 4 .undef = .ptr i1 0 ∧ e.getD 6 .undef = .int .i64 (IntKind.i64.wrap ((IntKind.i64.wrap (at_ - 20)) - 56)) ∧ e.getD 7 .undef = .ptr i32 0) (by
        simp only [↓WE, WA, WL, aop, ofValue, ofCell, isConst, abin, acall1, abuiltin, aun, AV.cells, AV.one, Nat.reduceAdd, Int.reduceLT, Int.reduceLE, ↓WD, W0, evalOp, Nat.reduceEqDiff, Nat.reduceLT, ↓reduceIte, reduceCtorEq, hl, e0, e4, e6, e21, os31, bd_100_0, zero_100, oa34, os39]
        exact ⟨rfl, (by simp only [List.length_set, hl]), (by simp only [W0, Nat.reduceEqDiff, Nat.reduceLT, ↓reduceIte, hl, e0, e4, e6, e21]), (by simp only [W0, Nat.reduceEqDiff, Nat.reduceLT, ↓reduceIte, hl, e0, e4, e6, e21]), (by simp only [W0, Nat.reduceEqDiff, Nat.reduceLT, ↓reduceIte, hl, e0, e4, e6, e21])⟩) ?_
      rintro envg42 _ ⟨rfl, hl, e4, e6, e7⟩
      try simp only [↓WD, W0, evalOp, Nat.reduceEqDiff, Nat.reduceLT, ↓reduceIte, reduceCtorEq, hl, e4, e6, e7]
      rw [AW_drawn, AE_drawnK (Ksub.cons k56 (Ksub.cons k70 (Ksub.cons k71 Ksub.nil))) (by kernel_rfl)]
      have ol43 := S41.load (P := Try.prog) 1 rfl (t := 100) (off := 0) (v := .agg [.str s31]) (by simp only [apart, ag_100, sz_100]; rfl)
      obtain ⟨y44, qy44, hF⟩ := obind hF
      have og45 := fun (cf : CallF) (g : AH) => tab_hook (cf := cf) k71 (args := [.agg [.str s31], .int .i64 24]) (v := .int .u64 y44) ((kf_71_eq (⟨s31⟩ : Gend_numbers) 24).trans (by rw [qy44]; rfl)) g
      have ol46 := S41.load (P := Try.prog) 1 rfl (t := 100) (off := 0) (v := .agg [.str s31]) (by simp only [apart, ag_100, sz_100]; rfl)
      obtain ⟨y47, qy47, hF⟩ := obind hF
      have og48 := fun (cf : CallF) (g : AH) => tab_hook (cf := cf) k71 (args := [.agg [.str s31], .int .i64 40]) (v := .int .u64 y47) ((kf_71_eq (⟨s31⟩ : Gend_numbers) 40).trans (by rw [qy47]; rfl)) g
      have ol49 := S41.load (P := Try.prog) 1 rfl (t := 100) (off := 0) (v := .agg [.str s31]) (by simp only [apart, ag_100, sz_100]; rfl)
      obtain ⟨y50, qy50, hF⟩ := obind hF
      have og51 := fun (cf : CallF) (g : AH) => tab_hook (cf := cf) k71 (args := [.agg [.str s31], .int .i64 48]) (v := .int .u64 y50) ((kf_71_eq (⟨s31⟩ : Gend_numbers) 48).trans (by rw [qy50]; rfl)) g
      refine AE_joinR (fun e h' => h38 = h' ∧ e.length = 76 ∧ e.getD 4 .undef = .ptr i1 0 ∧ e.getD 6 .undef = .int .i64 (IntKind.i64.wrap ((IntKind.i64.wrap (at_ - 20)) - 56)) ∧ e.getD 7 .undef = .ptr i32 0 ∧ e.getD 8 .undef = .int .u64 y44 ∧ e.getD 9 .undef = .int .u64 y47 ∧ e.getD 10 .undef = .int .u64 y50) (by
        simp only [↓WE, WA, WL, aop, ofValue, ofCell, isConst, abin, acall1, abuiltin, aun, AV.cells, AV.one, Nat.reduceAdd, Int.reduceLT, Int.reduceLE, ↓WD, W0, evalOp, Nat.reduceEqDiff, Nat.reduceLT, ↓reduceIte, reduceCtorEq, hl, e4, e6, e7, ol43, og45, ol46, og48, ol49, og51]
        exact ⟨rfl, (by simp only [List.length_set, hl]), (by simp only [W0, Nat.reduceEqDiff, Nat.reduceLT, ↓reduceIte, hl, e4, e6, e7]), (by simp only [W0, Nat.reduceEqDiff, Nat.reduceLT, ↓reduceIte, hl, e4, e6, e7]), (by simp only [W0, Nat.reduceEqDiff, Nat.reduceLT, ↓reduceIte, hl, e4, e6, e7]), (by simp only [W0, Nat.reduceEqDiff, Nat.reduceLT, ↓reduceIte, hl, e4, e6, e7]), (by simp only [W0, Nat.reduceEqDiff, Nat.reduceLT, ↓reduceIte, hl, e4, e6, e7]), (by simp only [W0, Nat.reduceEqDiff, Nat.reduceLT, ↓reduceIte, hl, e4, e6, e7])⟩) ?_
      rintro envg52 _ ⟨rfl, hl, e4, e6, e7, e8, e9, e10⟩
      try simp only [↓WD, W0, evalOp, Nat.reduceEqDiff, Nat.reduceLT, ↓reduceIte, reduceCtorEq, hl, e4, e6, e7, e8, e9, e10]
      rw [AW_region]
      obtain ⟨j80, qj80, hF⟩ := obind hF
      refine AE_joinR (fun e h' => e.length = 76 ∧ e.getD 4 .undef = .ptr i1 0 ∧ e.getD 6 .undef = .int .i64 (IntKind.i64.wrap ((IntKind.i64.wrap (at_ - 20)) - 56)) ∧ e.getD 8 .undef = .int .u64 y44 ∧ e.getD 9 .undef = .int .u64 y47 ∧ e.getD 10 .undef = .int .u64 y50 ∧ e.getD 35 .undef = .bool j80 ∧ Sep h [] h' [.blk i1 [.int .i64 0, .int .i64 0, .int .i64 0, .int .i64 0, .str [], .bool false] 62]) ?_ ?_
      · have ol53 := S41.load (P := Try.prog) 1 rfl (t := 100) (off := 0) (v := .agg [.str s31]) (by simp only [apart, ag_100, sz_100]; rfl)
        obtain ⟨y54, qy54, qj80⟩ := obind qj80
        have og55 := fun (D : Drawn) (n : Nat) (g : AH) => call_hook (P := Try.prog) (D := D) k56 n (args := [.agg [.str s31], .int .i64 0]) (v := .int .i64 y54) ((kf_56_eq (⟨s31⟩ : Gend_numbers) 0).trans (by rw [qy54]; rfl)) g
        simp only [↓WE, WA, WL, aop, ofValue, ofCell, isConst, abin, acall1, abuiltin, aun, AV.cells, AV.one, Nat.reduceAdd, Int.reduceLT, Int.reduceLE, ↓WD, W0, evalOp, Nat.reduceEqDiff, Nat.reduceLT, ↓reduceIte, reduceCtorEq, hl, e4, e6, e7, e8, e9, e10, ol53, og55]
        refine GuardW_boo (fun c56 => ?_) (fun c56 => ?_)
        · rw [if_pos c56] at qj80
          have d57 := c56
          simp only [↓WE, WA, WL, aop, ofValue, ofCell, isConst, abin, acall1, abuiltin, aun, AV.cells, AV.one, Nat.reduceAdd, Int.reduceLT, Int.reduceLE, ↓WD, W0, evalOp, Nat.reduceEqDiff, Nat.reduceLT, ↓reduceIte, reduceCtorEq, hl, e4, e6, e7, e8, e9, e10, ol53, og55, d57]
          obtain rfl := Option.some.inj qj80
          exact ⟨(by simp only [List.length_set, hl]), (by simp only [W0, Nat.reduceEqDiff, Nat.reduceLT, ↓reduceIte, hl, e4, e6, e7, e8, e9, e10]), (by simp only [W0, Nat.reduceEqDiff, Nat.reduceLT, ↓reduceIte, hl, e4, e6, e7, e8, e9, e10]), (by simp only [W0, Nat.reduceEqDiff, Nat.reduceLT, ↓reduceIte, hl, e4, e6, e7, e8, e9, e10]), (by simp only [W0, Nat.reduceEqDiff, Nat.reduceLT, ↓reduceIte, hl, e4, e6, e7, e8, e9, e10]), (by simp only [W0, Nat.reduceEqDiff, Nat.reduceLT, ↓reduceIte, hl, e4, e6, e7, e8, e9, e10]), (by simp only [W0, Nat.reduceEqDiff, Nat.reduceLT, ↓reduceIte, hl, e4, e6, e7, e8, e9, e10]), S41.pick [0] (by decide) rfl⟩
        · rw [if_neg (nf c56)] at qj80
          have d58 := c56
          have ol59 := S41.load (P := Try.prog) 1 rfl (t := 100) (off := 0) (v := .agg [.str s31]) (by simp only [apart, ag_100, sz_100]; rfl)
          obtain ⟨y60, qy60, qj80⟩ := obind qj80
          have og61 := fun (D : Drawn) (n : Nat) (g : AH) => call_hook (P := Try.prog) (D := D) k71 n (args := [.agg [.str s31], .int .i64 4]) (v := .int .u64 y60) ((kf_71_eq (⟨s31⟩ : Gend_numbers) 4).trans (by rw [qy60]; rfl)) g
          simp only [↓WE, WA, WL, aop, ofValue, ofCell, isConst, abin, acall1, abuiltin, aun, AV.cells, AV.one, Nat.reduceAdd, Int.reduceLT, Int.reduceLE, ↓WD, W0, evalOp, Nat.reduceEqDiff, Nat.reduceLT, ↓reduceIte, reduceCtorEq, hl, e4, e6, e7, e8, e9, e10, ol53, og55, ol59, og61, d58]
          refine GuardW_boo (fun c62 => ?_) (fun c62 => ?_)
          · rw [if_pos c62] at qj80
            have d63 := c62
            simp only [↓WE, WA, WL, aop, ofValue, ofCell, isConst, abin, acall1, abuiltin, aun, AV.cells, AV.one, Nat.reduceAdd, Int.reduceLT, Int.reduceLE, ↓WD, W0, evalOp, Nat.reduceEqDiff, Nat.reduceLT, ↓reduceIte, reduceCtorEq, hl, e4, e6, e7, e8, e9, e10, ol53, og55, ol59, og61, d58, d63]
            obtain rfl := Option.some.inj qj80
            exact ⟨(by simp only [List.length_set, hl]), (by simp only [W0, Nat.reduceEqDiff, Nat.reduceLT, ↓reduceIte, hl, e4, e6, e7, e8, e9, e10]), (by simp only [W0, Nat.reduceEqDiff, Nat.reduceLT, ↓reduceIte, hl, e4, e6, e7, e8, e9, e10]), (by simp only [W0, Nat.reduceEqDiff, Nat.reduceLT, ↓reduceIte, hl, e4, e6, e7, e8, e9, e10]), (by simp only [W0, Nat.reduceEqDiff, Nat.reduceLT, ↓reduceIte, hl, e4, e6, e7, e8, e9, e10]), (by simp only [W0, Nat.reduceEqDiff, Nat.reduceLT, ↓reduceIte, hl, e4, e6, e7, e8, e9, e10]), (by simp only [W0, Nat.reduceEqDiff, Nat.reduceLT, ↓reduceIte, hl, e4, e6, e7, e8, e9, e10]), S41.pick [0] (by decide) rfl⟩
          · rw [if_neg (nf c62)] at qj80
            have d64 := c62
            have ol65 := S41.load (P := Try.prog) 1 rfl (t := 100) (off := 0) (v := .agg [.str s31]) (by simp only [apart, ag_100, sz_100]; rfl)
            obtain ⟨y66, qy66, qj80⟩ := obind qj80
            have og67 := fun (D : Drawn) (n : Nat) (g : AH) => call_hook (P := Try.prog) (D := D) k56 n (args := [.agg [.str s31], .int .i64 16]) (v := .int .i64 y66) ((kf_56_eq (⟨s31⟩ : Gend_numbers) 16).trans (by rw [qy66]; rfl)) g
            simp only [↓WE, WA, WL, aop, ofValue, ofCell, isConst, abin, acall1, abuiltin, aun, AV.cells, AV.one, Nat.reduceAdd, Int.reduceLT, Int.reduceLE, ↓WD, W0, evalOp, Nat.reduceEqDiff, Nat.reduceLT, ↓reduceIte, reduceCtorEq, hl, e4, e6, e7, e8, e9, e10, ol53, og55, ol59, og61, ol65, og67, d58, d64]
            refine GuardW_boo (fun c68 => ?_) (fun c68 => ?_)
            · rw [if_pos c68] at qj80
              have d69 := c68
              simp only [↓WE, WA, WL, aop, ofValue, ofCell, isConst, abin, acall1, abuiltin, aun, AV.cells, AV.one, Nat.reduceAdd, Int.reduceLT, Int.reduceLE, ↓WD, W0, evalOp, Nat.reduceEqDiff, Nat.reduceLT, ↓reduceIte, reduceCtorEq, hl, e4, e6, e7, e8, e9, e10, ol53, og55, ol59, og61, ol65, og67, d58, d64, d69]
              obtain rfl := Option.some.inj qj80
              exact ⟨(by simp only [List.length_set, hl]), (by simp only [W0, Nat.reduceEqDiff, Nat.reduceLT, ↓reduceIte, hl, e4, e6, e7, e8, e9, e10]), (by simp only [W0, Nat.reduceEqDiff, Nat.reduceLT, ↓reduceIte, hl, e4, e6, e7, e8, e9, e10]), (by simp only [W0, Nat.reduceEqDiff, Nat.reduceLT, ↓reduceIte, hl, e4, e6, e7, e8, e9, e10]), (by simp only [W0, Nat.reduceEqDiff, Nat.reduceLT, ↓reduceIte, hl, e4, e6, e7, e8, e9, e10]), (by simp only [W0, Nat.reduceEqDiff, Nat.reduceLT, ↓reduceIte, hl, e4, e6, e7, e8, e9, e10]), (by simp only [W0, Nat.reduceEqDiff, Nat.reduceLT, ↓reduceIte, hl, e4, e6, e7, e8, e9, e10]), S41.pick [0] (by decide) rfl⟩
            · rw [if_neg (nf c68)] at qj80
              have d70 := c68
              have ol71 := S41.load (P := Try.prog) 1 rfl (t := 100) (off := 0) (v := .agg [.str s31]) (by simp only [apart, ag_100, sz_100]; rfl)
              obtain ⟨y72, qy72, qj80⟩ := obind qj80
              have og73 := fun (D : Drawn) (n : Nat) (g : AH) => call_hook (P := Try.prog) (D := D) k56 n (args := [.agg [.str s31], .int .i64 20]) (v := .int .i64 y72) ((kf_56_eq (⟨s31⟩ : Gend_numbers) 20).trans (by rw [qy72]; rfl)) g
              simp only [↓WE, WA, WL, aop, ofValue, ofCell, isConst, abin, acall1, abuiltin, aun, AV.cells, AV.one, Nat.reduceAdd, Int.reduceLT, Int.reduceLE, ↓WD, W0, evalOp, Nat.reduceEqDiff, Nat.reduceLT, ↓reduceIte, reduceCtorEq, hl, e4, e6, e7, e8, e9, e10, ol53, og55, ol59, og61, ol65, og67, ol71, og73, d58, d64, d70]
              refine GuardW_boo (fun c74 => ?_) (fun c74 => ?_)
              · rw [if_pos c74] at qj80
                have d75 := c74
                simp only [↓WE, WA, WL, aop, ofValue, ofCell, isConst, abin, acall1, abuiltin, aun, AV.cells, AV.one, Nat.reduceAdd, Int.reduceLT, Int.reduceLE, ↓WD, W0, evalOp, Nat.reduceEqDiff, Nat.reduceLT, ↓reduceIte, reduceCtorEq, hl, e4, e6, e7, e8, e9, e10, ol53, og55, ol59, og61, ol65, og67, ol71, og73, d58, d64, d70, d75]
                obtain rfl := Option.some.inj qj80
                exact ⟨(by simp only [List.length_set, hl]), (by simp only [W0, Nat.reduceEqDiff, Nat.reduceLT, ↓reduceIte, hl, e4, e6, e7, e8, e9, e10]), (by simp only [W0, Nat.reduceEqDiff, Nat.reduceLT, ↓reduceIte, hl, e4, e6, e7, e8, e9, e10]), (by simp only [W0, Nat.reduceEqDiff, Nat.reduceLT, ↓reduceIte, hl, e4, e6, e7, e8, e9, e10]), (by simp only [W0, Nat.reduceEqDiff, Nat.reduceLT, ↓reduceIte, hl, e4, e6, e7, e8, e9, e10]), (by simp only [W0, Nat.reduceEqDiff, Nat.reduceLT, ↓reduceIte, hl, e4, e6, e7, e8, e9, e10]), (by simp only [W0, Nat.reduceEqDiff, Nat.reduceLT, ↓reduceIte, hl, e4, e6, e7, e8, e9, e10]), S41.pick [0] (by decide) rfl⟩
              · rw [if_neg (nf c74)] at qj80
                have d76 := c74
                have ol77 := S41.load (P := Try.prog) 1 rfl (t := 100) (off := 0) (v := .agg [.str s31]) (by simp only [apart, ag_100, sz_100]; rfl)
                obtain ⟨y78, qy78, qj80⟩ := obind qj80
                have og79 := fun (D : Drawn) (n : Nat) (g : AH) => call_hook (P := Try.prog) (D := D) k71 n (args := [.agg [.str s31], .int .i64 32]) (v := .int .u64 y78) ((kf_71_eq (⟨s31⟩ : Gend_numbers) 32).trans (by rw [qy78]; rfl)) g
                simp only [↓WE, WA, WL, aop, ofValue, ofCell, isConst, abin, acall1, abuiltin, aun, AV.cells, AV.one, Nat.reduceAdd, Int.reduceLT, Int.reduceLE, ↓WD, W0, evalOp, Nat.reduceEqDiff, Nat.reduceLT, ↓reduceIte, reduceCtorEq, hl, e4, e6, e7, e8, e9, e10, ol53, og55, ol59, og61, ol65, og67, ol71, og73, ol77, og79, d58, d64, d70, d76]
                obtain rfl := Option.some.inj qj80
                exact ⟨(by simp only [List.length_set, hl]), (by simp only [W0, Nat.reduceEqDiff, Nat.reduceLT, ↓reduceIte, hl, e4, e6, e7, e8, e9, e10]), (by simp only [W0, Nat.reduceEqDiff, Nat.reduceLT, ↓reduceIte, hl, e4, e6, e7, e8, e9, e10]), (by simp only [W0, Nat.reduceEqDiff, Nat.reduceLT, ↓reduceIte, hl, e4, e6, e7, e8, e9, e10]), (by simp only [W0, Nat.reduceEqDiff, Nat.reduceLT, ↓reduceIte, hl, e4, e6, e7, e8, e9, e10]), (by simp only [W0, Nat.reduceEqDiff, Nat.reduceLT, ↓reduceIte, hl, e4, e6, e7, e8, e9, e10]), (by simp only [W0, Nat.reduceEqDiff, Nat.reduceLT, ↓reduceIte, hl, e4, e6, e7, e8, e9, e10]), S41.pick [0] (by decide) rfl⟩
      · rintro envj80 h82 ⟨hl, e4, e6, e8, e9, e10, e35, S81⟩
        try simp only [↓WD, W0, evalOp, Nat.reduceEqDiff, Nat.reduceLT, ↓reduceIte, reduceCtorEq, hl, e4, e6, e8, e9, e10, e35]
        refine CondK_boo (fun c105 => ?_) (fun c105 => ?_)
        · rw [if_pos c105] at hF
          try simp only [↓WD, W0, evalOp, Nat.reduceEqDiff, Nat.reduceLT, ↓reduceIte, reduceCtorEq, hl, e4, e6, e8, e9, e10, e35]
          rw [AW_region]
          obtain ⟨h106, os107, S108⟩ := S81.store (P := Try.prog) 0 rfl (t := 62) (off := 0) (v := .agg [.int .i64 0, .int .i64 0, .int .i64 0, .int .i64 0, .str [], .bool false]) (c' := [.int .i64 0, .int .i64 0, .int .i64 0, .int .i64 0, .str [], .bool false]) rfl sz_62 rfl (by simp) rfl
          have S109 : Sep h [] h106 [.blk i1 [.int .i64 0, .int .i64 0, .int .i64 0, .int .i64 0, .str [], .bool false] 62] := S108
          refine AE_joinR (fun e h' => h106 = h' ∧ e.length = 76 ∧ e.getD 4 .undef = .ptr i1 0 ∧ e.getD 5 .undef = .int .i64 2) (by
            simp only [↓WE, WA, WL, aop, ofValue, ofCell, isConst, abin, acall1, abuiltin, aun, AV.cells, AV.one, Nat.reduceAdd, Int.reduceLT, Int.reduceLE, ↓WD, W0, evalOp, Nat.reduceEqDiff, Nat.reduceLT, ↓reduceIte, reduceCtorEq, hl, e4, e6, e8, e9, e10, e35, bd_62_, os107]
            exact ⟨rfl, (by simp only [List.length_set, hl]), (by simp only [W0, Nat.reduceEqDiff, Nat.reduceLT, ↓reduceIte, hl, e4, e6, e8, e9, e10, e35]), (by simp only [W0, Nat.reduceEqDiff, Nat.reduceLT, ↓reduceIte, hl, e4, e6, e8, e9, e10, e35])⟩) ?_
          rintro envg110 _ ⟨rfl, hl, e4, e5⟩
          try simp only [↓WD, W0, evalOp, Nat.reduceEqDiff, Nat.reduceLT, ↓reduceIte, reduceCtorEq, hl, e4, e5]
          have ol111 := S109.load (P := Try.prog) 0 rfl (t := 62) (off := 0) (v := .agg [.int .i64 0, .int .i64 0, .int .i64 0, .int .i64 0, .str [], .bool false]) (by simp only [apart, ag_62, sz_62]; rfl)
          refine KP_ret (vs := [.agg [.int .i64 0, .int .i64 0, .int .i64 0, .int .i64 0, .str [], .bool false], .int .i64 2]) (by simp only [aresults, aresult, gs, List.length_set, Nat.reduceEqDiff, Nat.reduceLT, ↓reduceIte, hl, e4, e5, ol111]) ?_
          obtain rfl := Option.some.inj hF
          exact rfl
        · rw [if_neg (nf c105)] at hF
          try simp only [↓WD, W0, evalOp, Nat.reduceEqDiff, Nat.reduceLT, ↓reduceIte, reduceCtorEq, hl, e4, e6, e8, e9, e10, e35]
          rw [AW_region]
          refine AE_joinR (fun e h' => h82 = h' ∧ e.length = 76 ∧ e.getD 4 .undef = .ptr i1 0 ∧ e.getD 6 .undef = .int .i64 (IntKind.i64.wrap ((IntKind.i64.wrap (at_ - 20)) - 56)) ∧ e.getD 8 .undef = .int .u64 y44 ∧ e.getD 9 .undef = .int .u64 y47 ∧ e.getD 10 .undef = .int .u64 y50 ∧ e.getD 61 .undef = .bool (decide ((maxI (maxI y44 y47) y50) > 1099511627776))) (by
            simp only [↓WE, WA, WL, aop, ofValue, ofCell, isConst, abin, acall1, abuiltin, aun, AV.cells, AV.one, Nat.reduceAdd, Int.reduceLT, Int.reduceLE, ↓WD, W0, evalOp, Nat.reduceEqDiff, Nat.reduceLT, ↓reduceIte, reduceCtorEq, hl, e4, e6, e8, e9, e10, e35]
            exact ⟨rfl, (by simp only [List.length_set, hl]), (by simp only [W0, Nat.reduceEqDiff, Nat.reduceLT, ↓reduceIte, hl, e4, e6, e8, e9, e10, e35]), (by simp only [W0, Nat.reduceEqDiff, Nat.reduceLT, ↓reduceIte, hl, e4, e6, e8, e9, e10, e35]), (by simp only [W0, Nat.reduceEqDiff, Nat.reduceLT, ↓reduceIte, hl, e4, e6, e8, e9, e10, e35]), (by simp only [W0, Nat.reduceEqDiff, Nat.reduceLT, ↓reduceIte, hl, e4, e6, e8, e9, e10, e35]), (by simp only [W0, Nat.reduceEqDiff, Nat.reduceLT, ↓reduceIte, hl, e4, e6, e8, e9, e10, e35]), (by simp only [W0, Nat.reduceEqDiff, Nat.reduceLT, ↓reduceIte, hl, e4, e6, e8, e9, e10, e35])⟩) ?_
          rintro envg112 _ ⟨rfl, hl, e4, e6, e8, e9, e10, e61⟩
          try simp only [↓WD, W0, evalOp, Nat.reduceEqDiff, Nat.reduceLT, ↓reduceIte, reduceCtorEq, hl, e4, e6, e8, e9, e10, e61]
          refine CondK_dec (fun c120 => ?_) (fun c120 => ?_)
          · rw [if_pos c120] at hF
            try simp only [↓WD, W0, evalOp, Nat.reduceEqDiff, Nat.reduceLT, ↓reduceIte, reduceCtorEq, hl, e4, e6, e8, e9, e10, e61]
            rw [AW_region]
            obtain ⟨h121, os122, S123⟩ := S81.store (P := Try.prog) 0 rfl (t := 62) (off := 0) (v := .agg [.int .i64 0, .int .i64 0, .int .i64 0, .int .i64 0, .str [], .bool false]) (c' := [.int .i64 0, .int .i64 0, .int .i64 0, .int .i64 0, .str [], .bool false]) rfl sz_62 rfl (by simp) rfl
            have S124 : Sep h [] h121 [.blk i1 [.int .i64 0, .int .i64 0, .int .i64 0, .int .i64 0, .str [], .bool false] 62] := S123
            refine AE_joinR (fun e h' => h121 = h' ∧ e.length = 76 ∧ e.getD 4 .undef = .ptr i1 0 ∧ e.getD 5 .undef = .int .i64 7) (by
              simp only [↓WE, WA, WL, aop, ofValue, ofCell, isConst, abin, acall1, abuiltin, aun, AV.cells, AV.one, Nat.reduceAdd, Int.reduceLT, Int.reduceLE, ↓WD, W0, evalOp, Nat.reduceEqDiff, Nat.reduceLT, ↓reduceIte, reduceCtorEq, hl, e4, e6, e8, e9, e10, e61, bd_62_, os122]
              exact ⟨rfl, (by simp only [List.length_set, hl]), (by simp only [W0, Nat.reduceEqDiff, Nat.reduceLT, ↓reduceIte, hl, e4, e6, e8, e9, e10, e61]), (by simp only [W0, Nat.reduceEqDiff, Nat.reduceLT, ↓reduceIte, hl, e4, e6, e8, e9, e10, e61])⟩) ?_
            rintro envg125 _ ⟨rfl, hl, e4, e5⟩
            try simp only [↓WD, W0, evalOp, Nat.reduceEqDiff, Nat.reduceLT, ↓reduceIte, reduceCtorEq, hl, e4, e5]
            have ol126 := S124.load (P := Try.prog) 0 rfl (t := 62) (off := 0) (v := .agg [.int .i64 0, .int .i64 0, .int .i64 0, .int .i64 0, .str [], .bool false]) (by simp only [apart, ag_62, sz_62]; rfl)
            refine KP_ret (vs := [.agg [.int .i64 0, .int .i64 0, .int .i64 0, .int .i64 0, .str [], .bool false], .int .i64 7]) (by simp only [aresults, aresult, gs, List.length_set, Nat.reduceEqDiff, Nat.reduceLT, ↓reduceIte, hl, e4, e5, ol126]) ?_
            obtain rfl := Option.some.inj hF
            exact rfl
          · rw [if_neg c120] at hF
            try simp only [↓WD, W0, evalOp, Nat.reduceEqDiff, Nat.reduceLT, ↓reduceIte, reduceCtorEq, hl, e4, e6, e8, e9, e10, e61]
            rw [AW_region]
            have oc127 := fun g : AH => aconv_int (P := Try.prog) (h := g) (n := y44) (k' := .u64) Try.underlying25 Try.underlying3
            have oc128 := fun g : AH => aconv_int (P := Try.prog) (h := g) (n := y47) (k' := .u64) Try.underlying25 Try.underlying3
            have oc129 := fun g : AH => aconv_int (P := Try.prog) (h := g) (n := y50) (k' := .u64) Try.underlying25 Try.underlying3
            obtain ⟨h130, os131, S132⟩ := S81.store (P := Try.prog) 0 rfl (t := 62) (off := 0) (v := .agg [.int .i64 (IntKind.i64.wrap ((IntKind.i64.wrap (at_ - 20)) - 56)), .int .i64 (IntKind.i64.wrap y44), .int .i64 (IntKind.i64.wrap y47), .int .i64 (IntKind.i64.wrap y50), .str [], .bool true]) (c' := [.int .i64 (IntKind.i64.wrap ((IntKind.i64.wrap (at_ - 20)) - 56)), .int .i64 (IntKind.i64.wrap y44), .int .i64 (IntKind.i64.wrap y47), .int .i64 (IntKind.i64.wrap y50), .str [], .bool true]) rfl sz_62 rfl (by simp) rfl
            have S133 : Sep h [] h130 [.blk i1 [.int .i64 (IntKind.i64.wrap ((IntKind.i64.wrap (at_ - 20)) - 56)), .int .i64 (IntKind.i64.wrap y44), .int .i64 (IntKind.i64.wrap y47), .int .i64 (IntKind.i64.wrap y50), .str [], .bool true] 62] := S132
            refine AE_joinR (fun e h' => h130 = h' ∧ e.length = 76 ∧ e.getD 4 .undef = .ptr i1 0 ∧ e.getD 5 .undef = .int .i64 0) (by
              simp only [↓WE, WA, WL, aop, ofValue, ofCell, isConst, abin, acall1, abuiltin, aun, AV.cells, AV.one, Nat.reduceAdd, Int.reduceLT, Int.reduceLE, ↓WD, W0, evalOp, Nat.reduceEqDiff, Nat.reduceLT, ↓reduceIte, reduceCtorEq, hl, e4, e6, e8, e9, e10, e61, oc127, oc128, oc129, bd_62_0_1_2_3_5, os131]
              exact ⟨rfl, (by simp only [List.length_set, hl]), (by simp only [W0, Nat.reduceEqDiff, Nat.reduceLT, ↓reduceIte, hl, e4, e6, e8, e9, e10, e61]), (by simp only [W0, Nat.reduceEqDiff, Nat.reduceLT, ↓reduceIte, hl, e4, e6, e8, e9, e10, e61])⟩) ?_
            rintro envg134 _ ⟨rfl, hl, e4, e5⟩
            try simp only [↓WD, W0, evalOp, Nat.reduceEqDiff, Nat.reduceLT, ↓reduceIte, reduceCtorEq, hl, e4, e5]
            have ol135 := S133.load (P := Try.prog) 0 rfl (t := 62) (off := 0) (v := .agg [.int .i64 (IntKind.i64.wrap ((IntKind.i64.wrap (at_ - 20)) - 56)), .int .i64 (IntKind.i64.wrap y44), .int .i64 (IntKind.i64.wrap y47), .int .i64 (IntKind.i64.wrap y50), .str [], .bool true]) (by simp only [apart, ag_62, sz_62]; rfl)
            refine KP_ret (vs := [.agg [.int .i64 (IntKind.i64.wrap ((IntKind.i64.wrap (at_ - 20)) - 56)), .int .i64 (IntKind.i64.wrap y44), .int .i64 (IntKind.i64.wrap y47), .int .i64 (IntKind.i64.wrap y50), .str [], .bool true], .int .i64 0]) (by simp only [aresults, aresult, gs, List.length_set, Nat.reduceEqDiff, Nat.reduceLT, ↓reduceIte, hl, e4, e5, ol135]) ?_
            obtain rfl := Option.some.inj hF
            exact rfl
set_option maxRecDepth 100000 in
set_option maxHeartbeats 4000000 in
theorem W_end_Find {K : PureK} (k54 : K 54 = some kf_54) (k55 : K 55 = some kf_55) (k56 : K 56 = some kf_56) (k57 : K 57 = some kf_57) (n33 : K 33 = none) (m : Nat) (hm : NF + 1 ≤ m) (h : AH) (s_ : List UInt8) {r : Gapi_End × Int} (hF : F_end_Find s_ = some r) :
    AR (acall Try.prog (hooksOf K) (drawnOf Try.prog (tabOf K)) m 33 [.str s_] h) (fun v h' => v = .tup [.agg [.int .i64 r.1.xAt, .int .i64 r.1.xCount, .int .i64 r.1.xSize, .int .i64 r.1.xOffset, .str r.1.xComment, .bool r.1.xWide], .int .i64 r.2]) := by
  obtain ⟨m, rfl⟩ : ∃ k, m = k + 1 := ⟨m - 1, by omega⟩
  refine AR_call (hooksOf_none n33) Try.func33 rfl _ _ fun env hl he => ?_
  have e0 := he 0
  simp only [List.getD_cons_zero, List.getD_cons_succ] at e0
  simp only [Try.f33] at hl ⊢
  simp only [List.length_cons, List.length_nil, Nat.reduceAdd, Nat.reduceSub] at hl
  clear he
  have S0 : Sep h [] h [] := Sep.nil h
  rw [F_end_Find] at hF
  try simp only [↓WD, W0, evalOp, Nat.reduceEqDiff, Nat.reduceLT, ↓reduceIte, reduceCtorEq, hl, e0]
  rw [AW_region]
  obtain ⟨i1, h2, oa3, S4⟩ := S0.alloc 62 [.int .i64 0, .int .i64 0, .int .i64 0, .int .i64 0, .str [], .bool false]
  have S6 : Sep h [] h2 [.blk i1 [.int .i64 0, .int .i64 0, .int .i64 0, .int .i64 0, .str [], .bool false] 62] := S4
  refine AE_joinR (fun e h' => h2 = h' ∧ e.length = 85 ∧ e.getD 0 .undef = .str s_ ∧ e.getD 2 .undef = .ptr i1 0) (by
    simp only [↓WE, WA, WL, aop, ofValue, ofCell, isConst, abin, acall1, abuiltin, aun, AV.cells, AV.one, Nat.reduceAdd, Int.reduceLT, Int.reduceLE, ↓WD, W0, evalOp, Nat.reduceEqDiff, Nat.reduceLT, ↓reduceIte, reduceCtorEq, hl, e0, zero_62, oa3]
    exact ⟨rfl, (by simp only [List.length_set, hl]), (by simp only [W0, Nat.reduceEqDiff, Nat.reduceLT, ↓reduceIte, hl, e0]), (by simp only [W0, Nat.reduceEqDiff, Nat.reduceLT, ↓reduceIte, hl, e0])⟩) ?_
  rintro envg7 _ ⟨rfl, hl, e0, e2⟩
  try simp only [↓WD, W0, evalOp, Nat.reduceEqDiff, Nat.reduceLT, ↓reduceIte, reduceCtorEq, hl, e0, e2]
  rw [AW_region]
  obtain ⟨y8, qy8, hF⟩ := obind hF
  have og9 := fun (D : Drawn) (n : Nat) (g : AH) => call_hook (P := Try.prog) (D := D) k54 n (args := [.str s_]) (v := .tup [.int .i64 y8.1, .bool y8.2]) ((kf_54_eq s_).trans (by rw [qy8]; rfl)) g
  refine AE_joinR (fun e h' => h2 = h' ∧ e.length = 85 ∧ e.getD 0 .undef = .str s_ ∧ e.getD 2 .undef = .ptr i1 0 ∧ e.getD 4 .undef = .int .i64 y8.1 ∧ e.getD 5 .undef = .bool y8.2) (by
    simp only [↓WE, WA, WL, aop, ofValue, ofCell, isConst, abin, acall1, abuiltin, aun, AV.cells, AV.one, Nat.reduceAdd, Int.reduceLT, Int.reduceLE, ↓WD, W0, evalOp, Nat.reduceEqDiff, Nat.reduceLT, ↓reduceIte, reduceCtorEq, hl, e0, e2, og9]
    exact ⟨rfl, (by simp only [List.length_set, hl]), (by simp only [W0, Nat.reduceEqDiff, Nat.reduceLT, ↓reduceIte, hl, e0, e2]), (by simp only [W0, Nat.reduceEqDiff, Nat.reduceLT, ↓reduceIte, hl, e0, e2]), (by simp only [W0, Nat.reduceEqDiff, Nat.reduceLT, ↓reduceIte, hl, e0, e2]), (by simp only [W0, Nat.reduceEqDiff, Nat.reduceLT, ↓reduceIte, hl, e0, e2])⟩) ?_
  rintro envg10 _ ⟨rfl, hl, e0, e2, e4, e5⟩
  try simp only [↓WD, W0, evalOp, Nat.reduceEqDiff, Nat.reduceLT, ↓reduceIte, reduceCtorEq, hl, e0, e2, e4, e5]
  rw [AW_region]
  refine AE_joinR (fun e h' => h2 = h' ∧ e.length = 85 ∧ e.getD 0 .undef = .str s_ ∧ e.getD 2 .undef = .ptr i1 0 ∧ e.getD 4 .undef = .int .i64 y8.1 ∧ e.getD 16 .undef = .bool !y8.2) (by
    simp only [↓WE, WA, WL, aop, ofValue, ofCell, isConst, abin, acall1, abuiltin, aun, AV.cells, AV.one, Nat.reduceAdd, Int.reduceLT, Int.reduceLE, ↓WD, W0, evalOp, Nat.reduceEqDiff, Nat.reduceLT, ↓reduceIte, reduceCtorEq, hl, e0, e2, e4, e5]
    exact ⟨rfl, (by simp only [List.length_set, hl]), (by simp only [W0, Nat.reduceEqDiff, Nat.reduceLT, ↓reduceIte, hl, e0, e2, e4, e5]), (by simp only [W0, Nat.reduceEqDiff, Nat.reduceLT, ↓reduceIte, hl, e0, e2, e4, e5]), (by simp only [W0, Nat.reduceEqDiff, Nat.reduceLT, ↓reduceIte, hl, e0, e2, e4, e5]), (by simp only [W0, Nat.reduceEqDiff, Nat.reduceLT, ↓reduceIte, hl, e0, e2, e4, e5])⟩) ?_
  rintro envg11 _ ⟨rfl, hl, e0, e2, e4, e16⟩
  try simp only [↓WD, W0, evalOp, Nat.reduceEqDiff, Nat.reduceLT, ↓reduceIte, reduceCtorEq, hl, e0, e2, e4, e16]
  refine CondK_boo (fun c19 => ?_) (fun c19 => ?_)
  · rw [if_pos c19] at hF
    try simp only [↓WD, W0, evalOp, Nat.reduceEqDiff, Nat.reduceLT, ↓reduceIte, reduceCtorEq, hl, e0, e2, e4, e16]
    rw [AW_region]
    obtain ⟨h20, os21, S22⟩ := S6.store (P := Try.prog) 0 rfl (t := 62) (off := 0) (v := .agg [.int .i64 0, .int .i64 0, .int .i64 0, .int .i64 0, .str [], .bool false]) (c' := [.int .i64 0, .int .i64 0, .int .i64 0, .int .i64 0, .str [], .bool false]) rfl sz_62 rfl (by simp) rfl
    have S23 : Sep h [] h20 [.blk i1 [.int .i64 0, .int .i64 0, .int .i64 0, .int .i64 0, .str [], .bool false] 62] := S22
    refine AE_joinR (fun e h' => h20 = h' ∧ e.length = 85 ∧ e.getD 2 .undef = .ptr i1 0 ∧ e.getD 3 .undef = .int .i64 8) (by
      simp only [↓WE, WA, WL, aop, ofValue, ofCell, isConst, abin, acall1, abuiltin, aun, AV.cells, AV.one, Nat.reduceAdd, Int.reduceLT, Int.reduceLE, ↓WD, W0, evalOp, Nat.reduceEqDiff, Nat.reduceLT, ↓reduceIte, reduceCtorEq, hl, e0, e2, e4, e16, bd_62_, os21]
      exact ⟨rfl, (by simp only [List.length_set, hl]), (by simp only [W0, Nat.reduceEqDiff, Nat.reduceLT, ↓reduceIte, hl, e0, e2, e4, e16]), (by simp only [W0, Nat.reduceEqDiff, Nat.reduceLT, ↓reduceIte, hl, e0, e2, e4, e16])⟩) ?_
    rintro envg24 _ ⟨rfl, hl, e2, e3⟩
    try simp only [↓WD, W0, evalOp, Nat.reduceEqDiff, Nat.reduceLT, ↓reduceIte, reduceCtorEq, hl, e2, e3]
    have ol25 := S23.load (P := Try.prog) 0 rfl (t := 62) (off := 0) (v := .agg [.int .i64 0, .int .i64 0, .int .i64 0, .int .i64 0, .str [], .bool false]) (by simp only [apart, ag_62, sz_62]; rfl)
    refine KP_ret (vs := [.agg [.int .i64 0, .int .i64 0, .int .i64 0, .int .i64 0, .str [], .bool false], .int .i64 8]) (by simp only [aresults, aresult, gs, List.length_set, Nat.reduceEqDiff, Nat.reduceLT, ↓reduceIte, hl, e2, e3, ol25]) ?_
    obtain rfl := Option.some.inj hF
    exact rfl
  · rw [if_neg (nf c19)] at hF
    try simp only [↓WD, W0, evalOp, Nat.reduceEqDiff, Nat.reduceLT, ↓reduceIte, reduceCtorEq, hl, e0, e2, e4, e16]
    rw [AW_region]
    obtain ⟨s26, qs26, hF⟩ := obind hF
    have os26 := fun g : AH => sub_strF (P := Try.prog) (h := g) (k := .i64) Try.underlying9 qs26
    obtain ⟨i27, h28, oa29, S30⟩ := S6.alloc 100 [.str []]
    have S32 : Sep h [] h28 [.blk i1 [.int .i64 0, .int .i64 0, .int .i64 0, .int .i64 0, .str [], .bool false] 62, .blk i27 [.str []] 100] := S30
    obtain ⟨h33, os34, S35⟩ := S32.store (P := Try.prog) 1 rfl (t := 100) (off := 0) (v := .agg [.str s26]) (c' := [.str s26]) rfl sz_100 rfl (by simp) rfl
    have S36 : Sep h [] h33 [.blk i1 [.int .i64 0, .int .i64 0, .int .i64 0, .int .i64 0, .str [], .bool false] 62, .blk i27 [.str s26] 100] := S35
    refine AE_joinR (fun e h' => h33 = h' ∧ e.length = 85 ∧ e.getD 0 .undef = .str s_ ∧ e.getD 2 .undef = .ptr i1 0 ∧ e.getD 4 .undef = .int .i64 y8.1 ∧ e.getD 6 .undef = .ptr i27 0) (by
      simp only [↓WE, WA, WL, aop, ofValue, ofCell, isConst, abin, acall1, abuiltin, aun, AV.cells, AV.one, Nat.reduceAdd, Int.reduceLT, Int.reduceLE, ↓WD, W0, evalOp, Nat.reduceEqDiff, Nat.reduceLT, ↓reduceIte, reduceCtorEq, hl, e0, e2, e4, e16, os26, bd_100_0, zero_100, oa29, os34]
      exact ⟨rfl, (by simp only [List.length_set, hl]), (by simp only [W0, Nat.reduceEqDiff, Nat.reduceLT, ↓reduceIte, hl, e0, e2, e4, e16]), (by simp only [W0, Nat.reduceEqDiff, Nat.reduceLT, ↓reduceIte, hl, e0, e2, e4, e16]), (by simp only [W0, Nat.reduceEqDiff, Nat.reduceLT, ↓reduceIte, hl, e0, e2, e4, e16]), (by simp only [W0, Nat.reduceEqDiff, Nat.reduceLT, ↓reduceIte, hl, e0, e2, e4, e16])⟩) ?_
    rintro envg37 _ ⟨rfl, hl, e0, e2, e4, e6⟩
    try simp only [↓WD, W0, evalOp, Nat.reduceEqDiff, Nat.reduceLT, ↓reduceIte, reduceCtorEq, hl, e0, e2, e4, e6]
    rw [AW_drawn, AE_drawnK (Ksub.cons k54 (Ksub.cons k55 (Ksub.cons k56 (Ksub.cons k57 Ksub.nil)))) (by kernel_rfl)]
    obtain ⟨j56, qj56, hF⟩ := obind hF
    refine AE_joinR (fun e h' => e.length = 85 ∧ e.getD 0 .undef = .str s_ ∧ e.getD 2 .undef = .ptr i1 0 ∧ e.getD 4 .undef = .int .i64 y8.1 ∧ e.getD 6 .undef = .ptr i27 0 ∧ e.getD 36 .undef = .bool j56 ∧ Sep h [] h' [.blk i1 [.int .i64 0, .int .i64 0, .int .i64 0, .int .i64 0, .str [], .bool false] 62, .blk i27 [.str s26] 100]) ?_ ?_
    · have ol38 := S36.load (P := Try.prog) 1 rfl (t := 100) (off := 0) (v := .agg [.str s26]) (by simp only [apart, ag_100, sz_100]; rfl)
      obtain ⟨y39, qy39, qj56⟩ := obind qj56
      have og40 := fun (cf : CallF) (g : AH) => tab_hook (cf := cf) k55 (args := [.agg [.str s26], .int .i64 4]) (v := .int .i64 y39) ((kf_55_eq (⟨s26⟩ : Gend_numbers) 4).trans (by rw [qy39]; rfl)) g
      simp only [↓WE, WA, WL, aop, ofValue, ofCell, isConst, abin, acall1, abuiltin, aun, AV.cells, AV.one, Nat.reduceAdd, Int.reduceLT, Int.reduceLE, ↓WD, W0, evalOp, Nat.reduceEqDiff, Nat.reduceLT, ↓reduceIte, reduceCtorEq, hl, e0, e2, e4, e6, ol38, og40]
      refine GuardW_boo (fun c41 => ?_) (fun c41 => ?_)
      · rw [if_pos c41] at qj56
        have d42 := c41
        simp only [↓WE, WA, WL, aop, ofValue, ofCell, isConst, abin, acall1, abuiltin, aun, AV.cells, AV.one, Nat.reduceAdd, Int.reduceLT, Int.reduceLE, ↓WD, W0, evalOp, Nat.reduceEqDiff, Nat.reduceLT, ↓reduceIte, reduceCtorEq, hl, e0, e2, e4, e6, ol38, og40, d42]
        obtain rfl := Option.some.inj qj56
        exact ⟨(by simp only [List.length_set, hl]), (by simp only [W0, Nat.reduceEqDiff, Nat.reduceLT, ↓reduceIte, hl, e0, e2, e4, e6]), (by simp only [W0, Nat.reduceEqDiff, Nat.reduceLT, ↓reduceIte, hl, e0, e2, e4, e6]), (by simp only [W0, Nat.reduceEqDiff, Nat.reduceLT, ↓reduceIte, hl, e0, e2, e4, e6]), (by simp only [W0, Nat.reduceEqDiff, Nat.reduceLT, ↓reduceIte, hl, e0, e2, e4, e6]), (by simp only [W0, Nat.reduceEqDiff, Nat.reduceLT, ↓reduceIte, hl, e0, e2, e4, e6]), S36⟩
      · rw [if_neg (nf c41)] at qj56
        have d43 := c41
        have ol44 := S36.load (P := Try.prog) 1 rfl (t := 100) (off := 0) (v := .agg [.str s26]) (by simp only [apart, ag_100, sz_100]; rfl)
        obtain ⟨y45, qy45, qj56⟩ := obind qj56
        have og46 := fun (cf : CallF) (g : AH) => tab_hook (cf := cf) k55 (args := [.agg [.str s26], .int .i64 6]) (v := .int .i64 y45) ((kf_55_eq (⟨s26⟩ : Gend_numbers) 6).trans (by rw [qy45]; rfl)) g
        simp only [↓WE, WA, WL, aop, ofValue, ofCell, isConst, abin, acall1, abuiltin, aun, AV.cells, AV.one, Nat.reduceAdd, Int.reduceLT, Int.reduceLE, ↓WD, W0, evalOp, Nat.reduceEqDiff, Nat.reduceLT, ↓reduceIte, reduceCtorEq, hl, e0, e2, e4, e6, ol38, og40, ol44, og46, d43]
        refine GuardW_boo (fun c47 => ?_) (fun c47 => ?_)
        · rw [if_pos c47] at qj56
          have d48 := c47
          simp only [↓WE, WA, WL, aop, ofValue, ofCell, isConst, abin, acall1, abuiltin, aun, AV.cells, AV.one, Nat.reduceAdd, Int.reduceLT, Int.reduceLE, ↓WD, W0, evalOp, Nat.reduceEqDiff, Nat.reduceLT, ↓reduceIte, reduceCtorEq, hl, e0, e2, e4, e6, ol38, og40, ol44, og46, d43, d48]
          obtain rfl := Option.some.inj qj56
          exact ⟨(by simp only [List.length_set, hl]), (by simp only [W0, Nat.reduceEqDiff, Nat.reduceLT, ↓reduceIte, hl, e0, e2, e4, e6]), (by simp only [W0, Nat.reduceEqDiff, Nat.reduceLT, ↓reduceIte, hl, e0, e2, e4, e6]), (by simp only [W0, Nat.reduceEqDiff, Nat.reduceLT, ↓reduceIte, hl, e0, e2, e4, e6]), (by simp only [W0, Nat.reduceEqDiff, Nat.reduceLT, ↓reduceIte, hl, e0, e2, e4, e6]), (by simp only [W0, Nat.reduceEqDiff, Nat.reduceLT, ↓reduceIte, hl, e0, e2, e4, e6]), S36⟩
        · rw [if_neg (nf c47)] at qj56
          have d49 := c47
          have ol50 := S36.load (P := Try.prog) 1 rfl (t := 100) (off := 0) (v := .agg [.str s26]) (by simp only [apart, ag_100, sz_100]; rfl)
          obtain ⟨y51, qy51, qj56⟩ := obind qj56
          have og52 := fun (cf : CallF) (g : AH) => tab_hook (cf := cf) k55 (args := [.agg [.str s26], .int .i64 8]) (v := .int .i64 y51) ((kf_55_eq (⟨s26⟩ : Gend_numbers) 8).trans (by rw [qy51]; rfl)) g
          have ol53 := S36.load (P := Try.prog) 1 rfl (t := 100) (off := 0) (v := .agg [.str s26]) (by simp only [apart, ag_100, sz_100]; rfl)
          obtain ⟨y54, qy54, qj56⟩ := obind qj56
          have og55 := fun (cf : CallF) (g : AH) => tab_hook (cf := cf) k55 (args := [.agg [.str s26], .int .i64 10]) (v := .int .i64 y54) ((kf_55_eq (⟨s26⟩ : Gend_numbers) 10).trans (by rw [qy54]; rfl)) g
          simp only [↓WE, WA, WL, aop, ofValue, ofCell, isConst, abin, acall1, abuiltin, aun, AV.cells, AV.one, Nat.reduceAdd, Int.reduceLT, Int.reduceLE, ↓WD, W0, evalOp, Nat.reduceEqDiff, Nat.reduceLT, ↓reduceIte, reduceCtorEq, hl, e0, e2, e4, e6, ol38, og40, ol44, og46, ol50, og52, ol53, og55, d43, d49]
          obtain rfl := Option.some.inj qj56
          exact ⟨(by simp only [List.length_set, hl]), (by simp only [W0, Nat.reduceEqDiff, Nat.reduceLT, ↓reduceIte, hl, e0, e2, e4, e6]), (by simp only [W0, Nat.reduceEqDiff, Nat.reduceLT, ↓reduceIte, hl, e0, e2, e4, e6]), (by simp only [W0, Nat.reduceEqDiff, Nat.reduceLT, ↓reduceIte, hl, e0, e2, e4, e6]), (by simp only [W0, Nat.reduceEqDiff, Nat.reduceLT, ↓reduceIte, hl, e0, e2, e4, e6]), (by simp only [W0, Nat.reduceEqDiff, Nat.reduceLT, ↓reduceIte, hl, e0, e2, e4, e6]), S36⟩
    · rintro envj56 h58 ⟨hl, e0, e2, e4, e6, e36, S57⟩
      try simp only [↓WD, W0, evalOp, Nat.reduceEqDiff, Nat.reduceLT, ↓reduceIte, reduceCtorEq, hl, e0, e2, e4, e6, e36]
      refine CondK_boo (fun c66 => ?_) (fun c66 => ?_)
      · rw [if_pos c66] at hF
        try simp only [↓WD, W0, evalOp, Nat.reduceEqDiff, Nat.reduceLT, ↓reduceIte, reduceCtorEq, hl, e0, e2, e4, e6, e36]
        rw [AW_region]
        obtain ⟨h67, os68, S69⟩ := S57.store (P := Try.prog) 0 rfl (t := 62) (off := 0) (v := .agg [.int .i64 0, .int .i64 0, .int .i64 0, .int .i64 0, .str [], .bool false]) (c' := [.int .i64 0, .int .i64 0, .int .i64 0, .int .i64 0, .str [], .bool false]) rfl sz_62 rfl (by simp) rfl
        have S70 : Sep h [] h67 [.blk i1 [.int .i64 0, .int .i64 0, .int .i64 0, .int .i64 0, .str [], .bool false] 62, .blk i27 [.str s26] 100] := S69
        refine AE_joinR (fun e h' => h67 = h' ∧ e.length = 85 ∧ e.getD 2 .undef = .ptr i1 0 ∧ e.getD 3 .undef = .int .i64 2) (by
          simp only [↓WE, WA, WL, aop, ofValue, ofCell, isConst, abin, acall1, abuiltin, aun, AV.cells, AV.one, Nat.reduceAdd, Int.reduceLT, Int.reduceLE, ↓WD, W0, evalOp, Nat.reduceEqDiff, Nat.reduceLT, ↓reduceIte, reduceCtorEq, hl, e0, e2, e4, e6, e36, bd_62_, os68]
          exact ⟨rfl, (by simp only [List.length_set, hl]), (by simp only [W0, Nat.reduceEqDiff, Nat.reduceLT, ↓reduceIte, hl, e0, e2, e4, e6, e36]), (by simp only [W0, Nat.reduceEqDiff, Nat.reduceLT, ↓reduceIte, hl, e0, e2, e4, e6, e36])⟩) ?_
        rintro envg71 _ ⟨rfl, hl, e2, e3⟩
        try simp only [↓WD, W0, evalOp, Nat.reduceEqDiff, Nat.reduceLT, ↓reduceIte, reduceCtorEq, hl, e2, e3]
        have ol72 := S70.load (P := Try.prog) 0 rfl (t := 62) (off := 0) (v := .agg [.int .i64 0, .int .i64 0, .int .i64 0, .int .i64 0, .str [], .bool false]) (by simp only [apart, ag_62, sz_62]; rfl)
        refine KP_ret (vs := [.agg [.int .i64 0, .int .i64 0, .int .i64 0, .int .i64 0, .str [], .bool false], .int .i64 2]) (by simp only [aresults, aresult, gs, List.length_set, Nat.reduceEqDiff, Nat.reduceLT, ↓reduceIte, hl, e2, e3, ol72]) ?_
        obtain rfl := Option.some.inj hF
        exact rfl
      · rw [if_neg (nf c66)] at hF
        try simp only [↓WD, W0, evalOp, Nat.reduceEqDiff, Nat.reduceLT, ↓reduceIte, reduceCtorEq, hl, e0, e2, e4, e6, e36]
        rw [AW_drawn, AE_drawnK (Ksub.cons k54 (Ksub.cons k55 (Ksub.cons k56 (Ksub.cons k57 Ksub.nil)))) (by kernel_rfl)]
        have ol73 := S57.load (P := Try.prog) 1 rfl (t := 100) (off := 0) (v := .agg [.str s26]) (by simp only [apart, ag_100, sz_100]; rfl)
        obtain ⟨y74, qy74, hF⟩ := obind hF
        have og75 := fun (cf : CallF) (g : AH) => tab_hook (cf := cf) k55 (args := [.agg [.str s26], .int .i64 8]) (v := .int .i64 y74) ((kf_55_eq (⟨s26⟩ : Gend_numbers) 8).trans (by rw [qy74]; rfl)) g
        have ol76 := S57.load (P := Try.prog) 1 rfl (t := 100) (off := 0) (v := .agg [.str s26]) (by simp only [apart, ag_100, sz_100]; rfl)
        obtain ⟨y77, qy77, hF⟩ := obind hF
        have og78 := fun (cf : CallF) (g : AH) => tab_hook (cf := cf) k56 (args := [.agg [.str s26], .int .i64 12]) (v := .int .i64 y77) ((kf_56_eq (⟨s26⟩ : Gend_numbers) 12).trans (by rw [qy77]; rfl)) g
        have ol79 := S57.load (P := Try.prog) 1 rfl (t := 100) (off := 0) (v := .agg [.str s26]) (by simp only [apart, ag_100, sz_100]; rfl)
        obtain ⟨y80, qy80, hF⟩ := obind hF
        have og81 := fun (cf : CallF) (g : AH) => tab_hook (cf := cf) k56 (args := [.agg [.str s26], .int .i64 16]) (v := .int .i64 y80) ((kf_56_eq (⟨s26⟩ : Gend_numbers) 16).trans (by rw [qy80]; rfl)) g
        obtain ⟨i82, h83, oa84, S85⟩ := S57.alloc 62 [.int .i64 0, .int .i64 0, .int .i64 0, .int .i64 0, .str [], .bool false]
        have S87 : Sep h [] h83 [.blk i1 [.int .i64 0, .int .i64 0, .int .i64 0, .int .i64 0, .str [], .bool false] 62, .blk i27 [.str s26] 100, .blk i82 [.int .i64 0, .int .i64 0, .int .i64 0, .int .i64 0, .str [], .bool false] 62] := S85
        obtain ⟨h88, os89, S90⟩ := S87.store (P := Try.prog) 2 rfl (t := 62) (off := 0) (v := .agg [.int .i64 y8.1, .int .i64 y74, .int .i64 y77, .int .i64 y80, .str [], .bool false]) (c' := [.int .i64 y8.1, .int .i64 y74, .int .i64 y77, .int .i64 y80, .str [], .bool false]) rfl sz_62 rfl (by simp) rfl
        have S91 : Sep h [] h88 [.blk i1 [.int .i64 0, .int .i64 0, .int .i64 0, .int .i64 0, .str [], .bool false] 62, .blk i27 [.str s26] 100, .blk i82 [.int .i64 y8.1, .int .i64 y74, .int .i64 y77, .int .i64 y80, .str [], .bool false] 62] := S90
        refine AE_joinR (fun e h' => h88 = h' ∧ e.length = 85 ∧ e.getD 0 .undef = .str s_ ∧ e.getD 2 .undef = .ptr i1 0 ∧ e.getD 4 .undef = .int .i64 y8.1 ∧ e.getD 7 .undef = .ptr i82 0) (by
          simp only [↓WE, WA, WL, aop, ofValue, ofCell, isConst, abin, acall1, abuiltin, aun, AV.cells, AV.one, Nat.reduceAdd, Int.reduceLT, Int.reduceLE, ↓WD, W0, evalOp, Nat.reduceEqDiff, Nat.reduceLT, ↓reduceIte, reduceCtorEq, hl, e0, e2, e4, e6, e36, ol73, og75, ol76, og78, ol79, og81, bd_62_0_1_2_3, zero_62, oa84, os89]
          exact ⟨rfl, (by simp only [List.length_set, hl]), (by simp only [W0, Nat.reduceEqDiff, Nat.reduceLT, ↓reduceIte, hl, e0, e2, e4, e6, e36]), (by simp only [W0, Nat.reduceEqDiff, Nat.reduceLT, ↓reduceIte, hl, e0, e2, e4, e6, e36]), (by simp only [W0, Nat.reduceEqDiff, Nat.reduceLT, ↓reduceIte, hl, e0, e2, e4, e6, e36]), (by simp only [W0, Nat.reduceEqDiff, Nat.reduceLT, ↓reduceIte, hl, e0, e2, e4, e6, e36])⟩) ?_
        rintro envg92 _ ⟨rfl, hl, e0, e2, e4, e7⟩
        try simp only [↓WD, W0, evalOp, Nat.reduceEqDiff, Nat.reduceLT, ↓reduceIte, reduceCtorEq, hl, e0, e2, e4, e7]
        rw [AW_region]
        obtain ⟨j102, qj102, hF⟩ := obind hF
        refine AE_joinR (fun e h' => e.length = 85 ∧ e.getD 0 .undef = .str s_ ∧ e.getD 2 .undef = .ptr i1 0 ∧ e.getD 4 .undef = .int .i64 y8.1 ∧ e.getD 7 .undef = .ptr i82 0 ∧ e.getD 58 .undef = .bool j102 ∧ Sep h [] h' [.blk i1 [.int .i64 0, .int .i64 0, .int .i64 0, .int .i64 0, .str [], .bool false] 62, .blk i82 [.int .i64 y8.1, .int .i64 y74, .int .i64 y77, .int .i64 y80, .str [], .bool false] 62]) ?_ ?_
        · have ol93 := S91.load (P := Try.prog) 2 rfl (t := 3) (off := 1) (v := .int .i64 y74) (by simp only [apart, ag_3, sz_3]; rfl)
          simp only [↓WE, WA, WL, aop, ofValue, ofCell, isConst, abin, acall1, abuiltin, aun, AV.cells, AV.one, Nat.reduceAdd, Int.reduceLT, Int.reduceLE, ↓WD, W0, evalOp, Nat.reduceEqDiff, Nat.reduceLT, ↓reduceIte, reduceCtorEq, hl, e0, e2, e4, e7, fa_62_1, ol93]
          refine GuardW_boo (fun c94 => ?_) (fun c94 => ?_)
          · rw [if_pos c94] at qj102
            have d95 := c94
            simp only [↓WE, WA, WL, aop, ofValue, ofCell, isConst, abin, acall1, abuiltin, aun, AV.cells, AV.one, Nat.reduceAdd, Int.reduceLT, Int.reduceLE, ↓WD, W0, evalOp, Nat.reduceEqDiff, Nat.reduceLT, ↓reduceIte, reduceCtorEq, hl, e0, e2, e4, e7, fa_62_1, ol93, d95]
            obtain rfl := Option.some.inj qj102
            exact ⟨(by simp only [List.length_set, hl]), (by simp only [W0, Nat.reduceEqDiff, Nat.reduceLT, ↓reduceIte, hl, e0, e2, e4, e7]), (by simp only [W0, Nat.reduceEqDiff, Nat.reduceLT, ↓reduceIte, hl, e0, e2, e4, e7]), (by simp only [W0, Nat.reduceEqDiff, Nat.reduceLT, ↓reduceIte, hl, e0, e2, e4, e7]), (by simp only [W0, Nat.reduceEqDiff, Nat.reduceLT, ↓reduceIte, hl, e0, e2, e4, e7]), (by simp only [W0, Nat.reduceEqDiff, Nat.reduceLT, ↓reduceIte, hl, e0, e2, e4, e7]), S91.pick [0, 2] (by decide) rfl⟩
          · rw [if_neg (nf c94)] at qj102
            have d96 := c94
            have ol97 := S91.load (P := Try.prog) 2 rfl (t := 3) (off := 2) (v := .int .i64 y77) (by simp only [apart, ag_3, sz_3]; rfl)
            simp only [↓WE, WA, WL, aop, ofValue, ofCell, isConst, abin, acall1, abuiltin, aun, AV.cells, AV.one, Nat.reduceAdd, Int.reduceLT, Int.reduceLE, ↓WD, W0, evalOp, Nat.reduceEqDiff, Nat.reduceLT, ↓reduceIte, reduceCtorEq, hl, e0, e2, e4, e7, fa_62_1, ol93, fa_62_2, ol97, d96]
            refine GuardW_boo (fun c98 => ?_) (fun c98 => ?_)
            · rw [if_pos c98] at qj102
              have d99 := c98
              simp only [↓WE, WA, WL, aop, ofValue, ofCell, isConst, abin, acall1, abuiltin, aun, AV.cells, AV.one, Nat.reduceAdd, Int.reduceLT, Int.reduceLE, ↓WD, W0, evalOp, Nat.reduceEqDiff, Nat.reduceLT, ↓reduceIte, reduceCtorEq, hl, e0, e2, e4, e7, fa_62_1, ol93, fa_62_2, ol97, d96, d99]
              obtain rfl := Option.some.inj qj102
              exact ⟨(by simp only [List.length_set, hl]), (by simp only [W0, Nat.reduceEqDiff, Nat.reduceLT, ↓reduceIte, hl, e0, e2, e4, e7]), (by simp only [W0, Nat.reduceEqDiff, Nat.reduceLT, ↓reduceIte, hl, e0, e2, e4, e7]), (by simp only [W0, Nat.reduceEqDiff, Nat.reduceLT, ↓reduceIte, hl, e0, e2, e4, e7]), (by simp only [W0, Nat.reduceEqDiff, Nat.reduceLT, ↓reduceIte, hl, e0, e2, e4, e7]), (by simp only [W0, Nat.reduceEqDiff, Nat.reduceLT, ↓reduceIte, hl, e0, e2, e4, e7]), S91.pick [0, 2] (by decide) rfl⟩
            · rw [if_neg (nf c98)] at qj102
              have d100 := c98
              have ol101 := S91.load (P := Try.prog) 2 rfl (t := 3) (off := 3) (v := .int .i64 y80) (by simp only [apart, ag_3, sz_3]; rfl)
              simp only [↓WE, WA, WL, aop, ofValue, ofCell, isConst, abin, acall1, abuiltin, aun, AV.cells, AV.one, Nat.reduceAdd, Int.reduceLT, Int.reduceLE, ↓WD, W0, evalOp, Nat.reduceEqDiff, Nat.reduceLT, ↓reduceIte, reduceCtorEq, hl, e0, e2, e4, e7, fa_62_1, ol93, fa_62_2, ol97, fa_62_3, ol101, d96, d100]
              obtain rfl := Option.some.inj qj102
              exact ⟨(by simp only [List.length_set, hl]), (by simp only [W0, Nat.reduceEqDiff, Nat.reduceLT, ↓reduceIte, hl, e0, e2, e4, e7]), (by simp only [W0, Nat.reduceEqDiff, Nat.reduceLT, ↓reduceIte, hl, e0, e2, e4, e7]), (by simp only [W0, Nat.reduceEqDiff, Nat.reduceLT, ↓reduceIte, hl, e0, e2, e4, e7]), (by simp only [W0, Nat.reduceEqDiff, Nat.reduceLT, ↓reduceIte, hl, e0, e2, e4, e7]), (by simp only [W0, Nat.reduceEqDiff, Nat.reduceLT, ↓reduceIte, hl, e0, e2, e4, e7]), S91.pick [0, 2] (by decide) rfl⟩
        · rintro envj102 h104 ⟨hl, e0, e2, e4, e7, e58, S103⟩
          try simp only [↓WD, W0, evalOp, Nat.reduceEqDiff, Nat.reduceLT, ↓reduceIte, reduceCtorEq, hl, e0, e2, e4, e7, e58]
          obtain ⟨j140, qj140, hF⟩ := obind hF
          refine CondK_join (fun e h' => ∃ (cj140 : Int × Int × Int × Int × (List UInt8) × Bool), j140 = .inl cj140 ∧ e.length = 85 ∧ e.getD 0 .undef = .str s_ ∧ e.getD 2 .undef = .ptr i1 0 ∧ e.getD 4 .undef = .int .i64 y8.1 ∧ e.getD 7 .undef = .ptr i82 0 ∧ Sep h [] h' [.blk i1 [.int .i64 0, .int .i64 0, .int .i64 0, .int .i64 0, .str [], .bool false] 62, .blk i82 [.int .i64 cj140.1, .int .i64 cj140.2.1, .int .i64 cj140.2.2.1, .int .i64 cj140.2.2.2.1, .str cj140.2.2.2.2.1, .bool cj140.2.2.2.2.2] 62]) ?_ ?_
          · refine CondK_boo (fun c105 => ?_) (fun c105 => ?_)
            · rw [if_pos c105] at qj140
              try simp only [↓WD, W0, evalOp, Nat.reduceEqDiff, Nat.reduceLT, ↓reduceIte, reduceCtorEq, hl, e0, e2, e4, e7, e58]
              rw [AW_region]
              obtain ⟨y106, qy106, qj140⟩ := obind qj140
              have og107 := fun (D : Drawn) (n : Nat) (g : AH) => call_hook (P := Try.prog) (D := D) k57 n (args := [.str s_, .int .i64 y8.1]) (v := .tup [.agg [.int .i64 y106.1.xAt, .int .i64 y106.1.xCount, .int .i64 y106.1.xSize, .int .i64 y106.1.xOffset, .str y106.1.xComment, .bool y106.1.xWide], .int .i64 y106.2]) ((kf_57_eq s_ y8.1).trans (by rw [qy106]; rfl)) g
              obtain ⟨i108, h109, oa110, S111⟩ := S103.alloc 62 [.int .i64 0, .int .i64 0, .int .i64 0, .int .i64 0, .str [], .bool false]
              have S113 : Sep h [] h109 [.blk i1 [.int .i64 0, .int .i64 0, .int .i64 0, .int .i64 0, .str [], .bool false] 62, .blk i82 [.int .i64 y8.1, .int .i64 y74, .int .i64 y77, .int .i64 y80, .str [], .bool false] 62, .blk i108 [.int .i64 0, .int .i64 0, .int .i64 0, .int .i64 0, .str [], .bool false] 62] := S111
              obtain ⟨h114, os115, S116⟩ := S113.store (P := Try.prog) 2 rfl (t := 62) (off := 0) (v := .agg [.int .i64 y106.1.xAt, .int .i64 y106.1.xCount, .int .i64 y106.1.xSize, .int .i64 y106.1.xOffset, .str y106.1.xComment, .bool y106.1.xWide]) (c' := [.int .i64 y106.1.xAt, .int .i64 y106.1.xCount, .int .i64 y106.1.xSize, .int .i64 y106.1.xOffset, .str y106.1.xComment, .bool y106.1.xWide]) rfl sz_62 rfl (by simp) rfl
              have S117 : Sep h [] h114 [.blk i1 [.int .i64 0, .int .i64 0, .int .i64 0, .int .i64 0, .str [], .bool false] 62, .blk i82 [.int .i64 y8.1, .int .i64 y74, .int .i64 y77, .int .i64 y80, .str [], .bool false] 62, .blk i108 [.int .i64 y106.1.xAt, .int .i64 y106.1.xCount, .int .i64 y106.1.xSize, .int .i64 y106.1.xOffset, .str y106.1.xComment, .bool y106.1.xWide] 62] := S116
              refine AE_joinR (fun e h' => h114 = h' ∧ e.length = 85 ∧ e.getD 0 .undef = .str s_ ∧ e.getD 2 .undef = .ptr i1 0 ∧ e.getD 4 .undef = .int .i64 y8.1 ∧ e.getD 7 .undef = .ptr i82 0 ∧ e.getD 8 .undef = .ptr i108 0 ∧ e.getD 9 .undef = .int .i64 y106.2) (by
                simp only [↓WE, WA, WL, aop, ofValue, ofCell, isConst, abin, acall1, abuiltin, aun, AV.cells, AV.one, Nat.reduceAdd, Int.reduceLT, Int.reduceLE, ↓WD, W0, evalOp, Nat.reduceEqDiff, Nat.reduceLT, ↓reduceIte, reduceCtorEq, hl, e0, e2, e4, e7, e58, og107, zero_62, oa110, os115]
                exact ⟨rfl, (by simp only [List.length_set, hl]), (by simp only [W0, Nat.reduceEqDiff, Nat.reduceLT, ↓reduceIte, hl, e0, e2, e4, e7, e58]), (by simp only [W0, Nat.reduceEqDiff, Nat.reduceLT, ↓reduceIte, hl, e0, e2, e4, e7, e58]), (by simp only [W0, Nat.reduceEqDiff, Nat.reduceLT, ↓reduceIte, hl, e0, e2, e4, e7, e58]), (by simp only [W0, Nat.reduceEqDiff, Nat.reduceLT, ↓reduceIte, hl, e0, e2, e4, e7, e58]), (by simp only [W0, Nat.reduceEqDiff, Nat.reduceLT, ↓reduceIte, hl, e0, e2, e4, e7, e58]), (by simp only [W0, Nat.reduceEqDiff, Nat.reduceLT, ↓reduceIte, hl, e0, e2, e4, e7, e58])⟩) ?_
              rintro envg118 _ ⟨rfl, hl, e0, e2, e4, e7, e8, e9⟩
              try simp only [↓WD, W0, evalOp, Nat.reduceEqDiff, Nat.reduceLT, ↓reduceIte, reduceCtorEq, hl, e0, e2, e4, e7, e8, e9]
              rw [AW_region]
              refine AE_joinR (fun e h' => h114 = h' ∧ e.length = 85 ∧ e.getD 0 .undef = .str s_ ∧ e.getD 2 .undef = .ptr i1 0 ∧ e.getD 4 .undef = .int .i64 y8.1 ∧ e.getD 7 .undef = .ptr i82 0 ∧ e.getD 8 .undef = .ptr i108 0 ∧ e.getD 9 .undef = .int .i64 y106.2 ∧ e.getD 66 .undef = .bool (y106.2 != 0)) (by
                simp only [↓WE, WA, WL, aop, ofValue, ofCell, isConst, abin, acall1, abuiltin, aun, AV.cells, AV.one, Nat.reduceAdd, Int.reduceLT, Int.reduceLE, ↓WD, W0, evalOp, Nat.reduceEqDiff, Nat.reduceLT, ↓reduceIte, reduceCtorEq, hl, e0, e2, e4, e7, e8, e9]
                exact ⟨rfl, (by simp only [List.length_set, hl]), (by simp only [W0, Nat.reduceEqDiff, Nat.reduceLT, ↓reduceIte, hl, e0, e2, e4, e7, e8, e9]), (by simp only [W0, Nat.reduceEqDiff, Nat.reduceLT, ↓reduceIte, hl, e0, e2, e4, e7, e8, e9]), (by simp only [W0, Nat.reduceEqDiff, Nat.reduceLT, ↓reduceIte, hl, e0, e2, e4, e7, e8, e9]), (by simp only [W0, Nat.reduceEqDiff, Nat.reduceLT, ↓reduceIte, hl, e0, e2, e4, e7, e8, e9]), (by simp only [W0, Nat.reduceEqDiff, Nat.reduceLT, ↓reduceIte, hl, e0, e2, e4, e7, e8, e9]), (by simp only [W0, Nat.reduceEqDiff, Nat.reduceLT, ↓reduceIte, hl, e0, e2, e4, e7, e8, e9]), (by simp only [W0, Nat.reduceEqDiff, Nat.reduceLT, ↓reduceIte, hl, e0, e2, e4, e7, e8, e9])⟩) ?_
              rintro envg119 _ ⟨rfl, hl, e0, e2, e4, e7, e8, e9, e66⟩
              try simp only [↓WD, W0, evalOp, Nat.reduceEqDiff, Nat.reduceLT, ↓reduceIte, reduceCtorEq, hl, e0, e2, e4, e7, e8, e9, e66]
              refine CondK_boo (fun c127 => ?_) (fun c127 => ?_)
              · rw [if_pos c127] at qj140
                try simp only [↓WD, W0, evalOp, Nat.reduceEqDiff, Nat.reduceLT, ↓reduceIte, reduceCtorEq, hl, e0, e2, e4, e7, e8, e9, e66]
                rw [AW_region]
                obtain ⟨h128, os129, S130⟩ := S117.store (P := Try.prog) 0 rfl (t := 62) (off := 0) (v := .agg [.int .i64 0, .int .i64 0, .int .i64 0, .int .i64 0, .str [], .bool false]) (c' := [.int .i64 0, .int .i64 0, .int .i64 0, .int .i64 0, .str [], .bool false]) rfl sz_62 rfl (by simp) rfl
                have S131 : Sep h [] h128 [.blk i1 [.int .i64 0, .int .i64 0, .int .i64 0, .int .i64 0, .str [], .bool false] 62, .blk i82 [.int .i64 y8.1, .int .i64 y74, .int .i64 y77, .int .i64 y80, .str [], .bool false] 62, .blk i108 [.int .i64 y106.1.xAt, .int .i64 y106.1.xCount, .int .i64 y106.1.xSize, .int .i64 y106.1.xOffset, .str y106.1.xComment, .bool y106.1.xWide] 62] := S130
                refine AE_joinR (fun e h' => h128 = h' ∧ e.length = 85 ∧ e.getD 2 .undef = .ptr i1 0 ∧ e.getD 3 .undef = .int .i64 y106.2) (by
                  simp only [↓WE, WA, WL, aop, ofValue, ofCell, isConst, abin, acall1, abuiltin, aun, AV.cells, AV.one, Nat.reduceAdd, Int.reduceLT, Int.reduceLE, ↓WD, W0, evalOp, Nat.reduceEqDiff, Nat.reduceLT, ↓reduceIte, reduceCtorEq, hl, e0, e2, e4, e7, e8, e9, e66, bd_62_, os129]
                  exact ⟨rfl, (by simp only [List.length_set, hl]), (by simp only [W0, Nat.reduceEqDiff, Nat.reduceLT, ↓reduceIte, hl, e0, e2, e4, e7, e8, e9, e66]), (by simp only [W0, Nat.reduceEqDiff, Nat.reduceLT, ↓reduceIte, hl, e0, e2, e4, e7, e8, e9, e66])⟩) ?_
                rintro envg132 _ ⟨rfl, hl, e2, e3⟩
                try simp only [↓WD, W0, evalOp, Nat.reduceEqDiff, Nat.reduceLT, ↓reduceIte, reduceCtorEq, hl, e2, e3]
                rw [KP_nil, KJ_ret]
                try simp only [↓WD, W0, evalOp, Nat.reduceEqDiff, Nat.reduceLT, ↓reduceIte, reduceCtorEq, hl, e2, e3]
                have ol133 := S131.load (P := Try.prog) 0 rfl (t := 62) (off := 0) (v := .agg [.int .i64 0, .int .i64 0, .int .i64 0, .int .i64 0, .str [], .bool false]) (by simp only [apart, ag_62, sz_62]; rfl)
                refine KP_ret (vs := [.agg [.int .i64 0, .int .i64 0, .int .i64 0, .int .i64 0, .str [], .bool false], .int .i64 y106.2]) (by simp only [aresults, aresult, gs, List.length_set, Nat.reduceEqDiff, Nat.reduceLT, ↓reduceIte, hl, e2, e3, ol133]) ?_
                obtain rfl := Option.some.inj qj140
                rw [sumK_inr] at hF
                obtain rfl := Option.some.inj hF
                exact rfl
              · rw [if_neg (nf c127)] at qj140
                try simp only [↓WD, W0, evalOp, Nat.reduceEqDiff, Nat.reduceLT, ↓reduceIte, reduceCtorEq, hl, e0, e2, e4, e7, e8, e9, e66]
                rw [AW_region]
                have ol134 := S117.load (P := Try.prog) 2 rfl (t := 62) (off := 0) (v := .agg [.int .i64 y106.1.xAt, .int .i64 y106.1.xCount, .int .i64 y106.1.xSize, .int .i64 y106.1.xOffset, .str y106.1.xComment, .bool y106.1.xWide]) (by simp only [apart, ag_62, sz_62]; rfl)
                obtain ⟨h135, os136, S137⟩ := S117.store (P := Try.prog) 1 rfl (t := 62) (off := 0) (v := .agg [.int .i64 y106.1.xAt, .int .i64 y106.1.xCount, .int .i64 y106.1.xSize, .int .i64 y106.1.xOffset, .str y106.1.xComment, .bool y106.1.xWide]) (c' := [.int .i64 y106.1.xAt, .int .i64 y106.1.xCount, .int .i64 y106.1.xSize, .int .i64 y106.1.xOffset, .str y106.1.xComment, .bool y106.1.xWide]) rfl sz_62 rfl (by simp) rfl
                have S138 : Sep h [] h135 [.blk i1 [.int .i64 0, .int .i64 0, .int .i64 0, .int .i64 0, .str [], .bool false] 62, .blk i82 [.int .i64 y106.1.xAt, .int .i64 y106.1.xCount, .int .i64 y106.1.xSize, .int .i64 y106.1.xOffset, .str y106.1.xComment, .bool y106.1.xWide] 62, .blk i108 [.int .i64 y106.1.xAt, .int .i64 y106.1.xCount, .int .i64 y106.1.xSize, .int .i64 y106.1.xOffset, .str y106.1.xComment, .bool y106.1.xWide] 62] := S137
                refine AE_joinR (fun e h' => h135 = h' ∧ e.length = 85 ∧ e.getD 0 .undef = .str s_ ∧ e.getD 2 .undef = .ptr i1 0 ∧ e.getD 4 .undef = .int .i64 y8.1 ∧ e.getD 7 .undef = .ptr i82 0) (by
                  simp only [↓WE, WA, WL, aop, ofValue, ofCell, isConst, abin, acall1, abuiltin, aun, AV.cells, AV.one, Nat.reduceAdd, Int.reduceLT, Int.reduceLE, ↓WD, W0, evalOp, Nat.reduceEqDiff, Nat.reduceLT, ↓reduceIte, reduceCtorEq, hl, e0, e2, e4, e7, e8, e9, e66, ol134, os136]
                  exact ⟨rfl, (by simp only [List.length_set, hl]), (by simp only [W0, Nat.reduceEqDiff, Nat.reduceLT, ↓reduceIte, hl, e0, e2, e4, e7, e8, e9, e66]), (by simp only [W0, Nat.reduceEqDiff, Nat.reduceLT, ↓reduceIte, hl, e0, e2, e4, e7, e8, e9, e66]), (by simp only [W0, Nat.reduceEqDiff, Nat.reduceLT, ↓reduceIte, hl, e0, e2, e4, e7, e8, e9, e66]), (by simp only [W0, Nat.reduceEqDiff, Nat.reduceLT, ↓reduceIte, hl, e0, e2, e4, e7, e8, e9, e66])⟩) ?_
                rintro envg139 _ ⟨rfl, hl, e0, e2, e4, e7⟩
                try simp only [↓WD, W0, evalOp, Nat.reduceEqDiff, Nat.reduceLT, ↓reduceIte, reduceCtorEq, hl, e0, e2, e4, e7]
                rw [KP_nil, KJ_normal]
                obtain rfl := Option.some.inj qj140
                exact ⟨_, rfl, (by simp only [List.length_set, hl]), (by simp only [W0, Nat.reduceEqDiff, Nat.reduceLT, ↓reduceIte, hl, e0, e2, e4, e7]), (by simp only [W0, Nat.reduceEqDiff, Nat.reduceLT, ↓reduceIte, hl, e0, e2, e4, e7]), (by simp only [W0, Nat.reduceEqDiff, Nat.reduceLT, ↓reduceIte, hl, e0, e2, e4, e7]), (by simp only [W0, Nat.reduceEqDiff, Nat.reduceLT, ↓reduceIte, hl, e0, e2, e4, e7]), S138.pick [0, 1] (by decide) rfl⟩
            · rw [if_neg (nf c105)] at qj140
              try simp only [↓WD, W0, evalOp, Nat.reduceEqDiff, Nat.reduceLT, ↓reduceIte, reduceCtorEq, hl, e0, e2, e4, e7, e58]
              rw [KP_nil, KJ_normal]
              obtain rfl := Option.some.inj qj140
              exact ⟨_, rfl, (by simp only [List.length_set, hl]), (by simp only [W0, Nat.reduceEqDiff, Nat.reduceLT, ↓reduceIte, hl, e0, e2, e4, e7, e58]), (by simp only [W0, Nat.reduceEqDiff, Nat.reduceLT, ↓reduceIte, hl, e0, e2, e4, e7, e58]), (by simp only [W0, Nat.reduceEqDiff, Nat.reduceLT, ↓reduceIte, hl, e0, e2, e4, e7, e58]), (by simp only [W0, Nat.reduceEqDiff, Nat.reduceLT, ↓reduceIte, hl, e0, e2, e4, e7, e58]), S103⟩
          · rintro envj140 h142 ⟨cj140, rfl, hl, e0, e2, e4, e7, S141⟩
            rw [sumK_inl] at hF
            try simp only [↓WD, W0, evalOp, Nat.reduceEqDiff, Nat.reduceLT, ↓reduceIte, reduceCtorEq, hl, e0, e2, e4, e7]
            rw [AW_region]
            have ol143 := S141.load (P := Try.prog) 1 rfl (t := 3) (off := 3) (v := .int .i64 cj140.2.2.2.1) (by simp only [apart, ag_3, sz_3]; rfl)
            have ol144 := S141.load (P := Try.prog) 1 rfl (t := 3) (off := 2) (v := .int .i64 cj140.2.2.1) (by simp only [apart, ag_3, sz_3]; rfl)
            have ol145 := S141.load (P := Try.prog) 1 rfl (t := 3) (off := 0) (v := .int .i64 cj140.1) (by simp only [apart, ag_3, sz_3]; rfl)
            refine AE_joinR (fun e h' => h142 = h' ∧ e.length = 85 ∧ e.getD 0 .undef = .str s_ ∧ e.getD 2 .undef = .ptr i1 0 ∧ e.getD 4 .undef = .int .i64 y8.1 ∧ e.getD 7 .undef = .ptr i82 0 ∧ e.getD 77 .undef = .bool ((IntKind.i64.wrap (cj140.2.2.2.1 + cj140.2.2.1)) != cj140.1)) (by
              simp only [↓WE, WA, WL, aop, ofValue, ofCell, isConst, abin, acall1, abuiltin, aun, AV.cells, AV.one, Nat.reduceAdd, Int.reduceLT, Int.reduceLE, ↓WD, W0, evalOp, Nat.reduceEqDiff, Nat.reduceLT, ↓reduceIte, reduceCtorEq, hl, e0, e2, e4, e7, fa_62_3, ol143, fa_62_2, ol144, fa_62_0, ol145]
              exact ⟨rfl, (by simp only [List.length_set, hl]), (by simp only [W0, Nat.reduceEqDiff, Nat.reduceLT, ↓reduceIte, hl, e0, e2, e4, e7]), (by simp only [W0, Nat.reduceEqDiff, Nat.reduceLT, ↓reduceIte, hl, e0, e2, e4, e7]), (by simp only [W0, Nat.reduceEqDiff, Nat.reduceLT, ↓reduceIte, hl, e0, e2, e4, e7]), (by simp only [W0, Nat.reduceEqDiff, Nat.reduceLT, ↓reduceIte, hl, e0, e2, e4, e7]), (by simp only [W0, Nat.reduceEqDiff, Nat.reduceLT, ↓reduceIte, hl, e0, e2, e4, e7])⟩) ?_
            rintro envg146 _ ⟨rfl, hl, e0, e2, e4, e7, e77⟩
            try simp only [↓WD, W0, evalOp, Nat.reduceEqDiff, Nat.reduceLT, ↓reduceIte, reduceCtorEq, hl, e0, e2, e4, e7, e77]
            refine CondK_boo (fun c154 => ?_) (fun c154 => ?_)
            · rw [if_pos c154] at hF
              try simp only [↓WD, W0, evalOp, Nat.reduceEqDiff, Nat.reduceLT, ↓reduceIte, reduceCtorEq, hl, e0, e2, e4, e7, e77]
              rw [AW_region]
              obtain ⟨h155, os156, S157⟩ := S141.store (P := Try.prog) 0 rfl (t := 62) (off := 0) (v := .agg [.int .i64 0, .int .i64 0, .int .i64 0, .int .i64 0, .str [], .bool false]) (c' := [.int .i64 0, .int .i64 0, .int .i64 0, .int .i64 0, .str [], .bool false]) rfl sz_62 rfl (by simp) rfl
              have S158 : Sep h [] h155 [.blk i1 [.int .i64 0, .int .i64 0, .int .i64 0, .int .i64 0, .str [], .bool false] 62, .blk i82 [.int .i64 cj140.1, .int .i64 cj140.2.1, .int .i64 cj140.2.2.1, .int .i64 cj140.2.2.2.1, .str cj140.2.2.2.2.1, .bool cj140.2.2.2.2.2] 62] := S157
              refine AE_joinR (fun e h' => h155 = h' ∧ e.length = 85 ∧ e.getD 2 .undef = .ptr i1 0 ∧ e.getD 3 .undef = .int .i64 2) (by
                simp only [↓WE, WA, WL, aop, ofValue, ofCell, isConst, abin, acall1, abuiltin, aun, AV.cells, AV.one, Nat.reduceAdd, Int.reduceLT, Int.reduceLE, ↓WD, W0, evalOp, Nat.reduceEqDiff, Nat.reduceLT, ↓reduceIte, reduceCtorEq, hl, e0, e2, e4, e7, e77, bd_62_, os156]
                exact ⟨rfl, (by simp only [List.length_set, hl]), (by simp only [W0, Nat.reduceEqDiff, Nat.reduceLT, ↓reduceIte, hl, e0, e2, e4, e7, e77]), (by simp only [W0, Nat.reduceEqDiff, Nat.reduceLT, ↓reduceIte, hl, e0, e2, e4, e7, e77])⟩) ?_
              rintro envg159 _ ⟨rfl, hl, e2, e3⟩
              try simp only [↓WD, W0, evalOp, Nat.reduceEqDiff, Nat.reduceLT, ↓reduceIte, reduceCtorEq, hl, e2, e3]
              have ol160 := S158.load (P := Try.prog) 0 rfl (t := 62) (off := 0) (v := .agg [.int .i64 0, .int .i64 0, .int .i64 0, .int .i64 0, .str [], .bool false]) (by simp only [apart, ag_62, sz_62]; rfl)
              refine KP_ret (vs := [.agg [.int .i64 0, .int .i64 0, .int .i64 0, .int .i64 0, .str [], .bool false], .int .i64 2]) (by simp only [aresults, aresult, gs, List.length_set, Nat.reduceEqDiff, Nat.reduceLT, ↓reduceIte, hl, e2, e3, ol160]) ?_
              obtain rfl := Option.some.inj hF
              exact rfl
            · rw [if_neg (nf c154)] at hF
              try simp only [↓WD, W0, evalOp, Nat.reduceEqDiff, Nat.reduceLT, ↓reduceIte, reduceCtorEq, hl, e0, e2, e4, e7, e77]
              rw [AW_region]
              obtain ⟨s161, qs161, hF⟩ := obind hF
              have os161 := fun g : AH => sub_strF (P := Try.prog) (h := g) (k := .i64) Try.underlying9 qs161
              obtain ⟨h162, os163, S164⟩ := S141.store (P := Try.prog) 1 rfl (t := 9) (off := 4) (v := .str s161) (c' := [.int .i64 cj140.1, .int .i64 cj140.2.1, .int .i64 cj140.2.2.1, .int .i64 cj140.2.2.2.1, .str s161, .bool cj140.2.2.2.2.2]) rfl sz_9 rfl (by simp) rfl
              have S165 : Sep h [] h162 [.blk i1 [.int .i64 0, .int .i64 0, .int .i64 0, .int .i64 0, .str [], .bool false] 62, .blk i82 [.int .i64 cj140.1, .int .i64 cj140.2.1, .int .i64 cj140.2.2.1, .int .i64 cj140.2.2.2.1, .str s161, .bool cj140.2.2.2.2.2] 62] := S164
              refine AE_joinR (fun e h' => h162 = h' ∧ e.length = 85 ∧ e.getD 2 .undef = .ptr i1 0 ∧ e.getD 7 .undef = .ptr i82 0) (by
                simp only [↓WE, WA, WL, aop, ofValue, ofCell, isConst, abin, acall1, abuiltin, aun, AV.cells, AV.one, Nat.reduceAdd, Int.reduceLT, Int.reduceLE, ↓WD, W0, evalOp, Nat.reduceEqDiff, Nat.reduceLT, ↓reduceIte, reduceCtorEq, hl, e0, e2, e4, e7, e77, os161, fa_62_4, os163]
                exact ⟨rfl, (by simp only [List.length_set, hl]), (by simp only [W0, Nat.reduceEqDiff, Nat.reduceLT, ↓reduceIte, hl, e0, e2, e4, e7, e77]), (by simp only [W0, Nat.reduceEqDiff, Nat.reduceLT, ↓reduceIte, hl, e0, e2, e4, e7, e77])⟩) ?_
              rintro envg166 _ ⟨rfl, hl, e2, e7⟩
              try simp only [↓WD, W0, evalOp, Nat.reduceEqDiff, Nat.reduceLT, ↓reduceIte, reduceCtorEq, hl, e2, e7]
              rw [AW_region]
              have ol167 := S165.load (P := Try.prog) 1 rfl (t := 62) (off := 0) (v := .agg [.int .i64 cj140.1, .int .i64 cj140.2.1, .int .i64 cj140.2.2.1, .int .i64 cj140.2.2.2.1, .str s161, .bool cj140.2.2.2.2.2]) (by simp only [apart, ag_62, sz_62]; rfl)
              obtain ⟨h168, os169, S170⟩ := S165.store (P := Try.prog) 0 rfl (t := 62) (off := 0) (v := .agg [.int .i64 cj140.1, .int .i64 cj140.2.1, .int .i64 cj140.2.2.1, .int .i64 cj140.2.2.2.1, .str s161, .bool cj140.2.2.2.2.2]) (c' := [.int .i64 cj140.1, .int .i64 cj140.2.1, .int .i64 cj140.2.2.1, .int .i64 cj140.2.2.2.1, .str s161, .bool cj140.2.2.2.2.2]) rfl sz_62 rfl (by simp) rfl
              have S171 : Sep h [] h168 [.blk i1 [.int .i64 cj140.1, .int .i64 cj140.2.1, .int .i64 cj140.2.2.1, .int .i64 cj140.2.2.2.1, .str s161, .bool cj140.2.2.2.2.2] 62, .blk i82 [.int .i64 cj140.1, .int .i64 cj140.2.1, .int .i64 cj140.2.2.1, .int .i64 cj140.2.2.2.1, .str s161, .bool cj140.2.2.2.2.2] 62] := S170
              refine AE_joinR (fun e h' => h168 = h' ∧ e.length = 85 ∧ e.getD 2 .undef = .ptr i1 0 ∧ e.getD 3 .undef = .int .i64 0) (by
                simp only [↓WE, WA, WL, aop, ofValue, ofCell, isConst, abin, acall1, abuiltin, aun, AV.cells, AV.one, Nat.reduceAdd, Int.reduceLT, Int.reduceLE, ↓WD, W0, evalOp, Nat.reduceEqDiff, Nat.reduceLT, ↓reduceIte, reduceCtorEq, hl, e2, e7, ol167, os169]
                exact ⟨rfl, (by simp only [List.length_set, hl]), (by simp only [W0, Nat.reduceEqDiff, Nat.reduceLT, ↓reduceIte, hl, e2, e7]), (by simp only [W0, Nat.reduceEqDiff, Nat.reduceLT, ↓reduceIte, hl, e2, e7])⟩) ?_
              rintro envg172 _ ⟨rfl, hl, e2, e3⟩
              try simp only [↓WD, W0, evalOp, Nat.reduceEqDiff, Nat.reduceLT, ↓reduceIte, reduceCtorEq, hl, e2, e3]
              have ol173 := S171.load (P := Try.prog) 0 rfl (t := 62) (off := 0) (v := .agg [.int .i64 cj140.1, .int .i64 cj140.2.1, .int .i64 cj140.2.2.1, .int .i64 cj140.2.2.2.1, .str s161, .bool cj140.2.2.2.2.2]) (by simp only [apart, ag_62, sz_62]; rfl)
              refine KP_ret (vs := [.agg [.int .i64 cj140.1, .int .i64 cj140.2.1, .int .i64 cj140.2.2.1, .int .i64 cj140.2.2.2.1, .str s161, .bool cj140.2.2.2.2.2], .int .i64 0]) (by simp only [aresults, aresult, gs, List.length_set, Nat.reduceEqDiff, Nat.reduceLT, ↓reduceIte, hl, e2, e3, ol173]) ?_
              obtain rfl := Option.some.inj hF
              exact rfl
set_option maxRecDepth 100000 in
set_option maxHeartbeats 4000000 in
theorem W_law19_awake {K : PureK} (k33 : K 33 = some kf_33) (k35 : K 35 = some kf_35) (n32 : K 32 = none) (m : Nat) (hm : NF + 1 ≤ m) (h : AH)  {r : Bool} (hF : F_law19_awake  = some r) :
    AR (acall Try.prog (hooksOf K) (drawnOf Try.prog (tabOf K)) m 32 [] h) (fun v h' => v = .bool r ∧ Sep h [] h' []) := by
  obtain ⟨m, rfl⟩ : ∃ k, m = k + 1 := ⟨m - 1, by omega⟩
  refine AR_call (hooksOf_none n32) Try.func32 rfl _ _ fun env hl he => ?_
  simp only [Try.f32] at hl ⊢
  simp only [List.length_cons, List.length_nil, Nat.reduceAdd, Nat.reduceSub] at hl
  clear he
  have S0 : Sep h [] h [] := Sep.nil h
  rw [F_law19_awake] at hF
  try simp only [↓WD, W0, evalOp, Nat.reduceEqDiff, Nat.reduceLT, ↓reduceIte, reduceCtorEq, hl]
  rw [AW_region]
  refine AE_joinR (fun e h' => h = h' ∧ e.length = 78) (by
    simp only [↓WE, WA, WL, aop, ofValue, ofCell, isConst, abin, acall1, abuiltin, aun, AV.cells, AV.one, Nat.reduceAdd, Int.reduceLT, Int.reduceLE, ↓WD, W0, evalOp, Nat.reduceEqDiff, Nat.reduceLT, ↓reduceIte, reduceCtorEq, hl]
    exact ⟨rfl, (by simp only [List.length_set, hl])⟩) ?_
  rintro envg1 _ ⟨rfl, hl⟩
  try simp only [↓WD, W0, evalOp, Nat.reduceEqDiff, Nat.reduceLT, ↓reduceIte, reduceCtorEq, hl]
  rw [AW_region]
  obtain ⟨y2, qy2, hF⟩ := obind hF
  have og3 := fun (D : Drawn) (n : Nat) (g : AH) => call_hook (P := Try.prog) (D := D) k35 n (args := [.agg [.int .i64 0, .int .i64 0, .int .i64 0, .int .i64 0, .str [99], .bool false]]) (v := .tup [.str y2.1, .int .i64 y2.2]) ((kf_35_eq (⟨0, 0, 0, 0, [99], false⟩ : Gapi_End)).trans (by rw [qy2]; rfl)) g
  refine AE_joinR (fun e h' => h = h' ∧ e.length = 78 ∧ e.getD 1 .undef = .str y2.1 ∧ e.getD 2 .undef = .int .i64 y2.2) (by
    simp only [↓WE, WA, WL, aop, ofValue, ofCell, isConst, abin, acall1, abuiltin, aun, AV.cells, AV.one, Nat.reduceAdd, Int.reduceLT, Int.reduceLE, ↓WD, W0, evalOp, Nat.reduceEqDiff, Nat.reduceLT, ↓reduceIte, reduceCtorEq, hl, bd_62_4, og3]
    exact ⟨rfl, (by simp only [List.length_set, hl]), (by simp only [W0, Nat.reduceEqDiff, Nat.reduceLT, ↓reduceIte, hl]), (by simp only [W0, Nat.reduceEqDiff, Nat.reduceLT, ↓reduceIte, hl])⟩) ?_
  rintro envg4 _ ⟨rfl, hl, e1, e2⟩
  try simp only [↓WD, W0, evalOp, Nat.reduceEqDiff, Nat.reduceLT, ↓reduceIte, reduceCtorEq, hl, e1, e2]
  rw [AW_region]
  obtain ⟨y5, qy5, hF⟩ := obind hF
  have og6 := fun (D : Drawn) (n : Nat) (g : AH) => call_hook (P := Try.prog) (D := D) k33 n (args := [.str y2.1]) (v := .tup [.agg [.int .i64 y5.1.xAt, .int .i64 y5.1.xCount, .int .i64 y5.1.xSize, .int .i64 y5.1.xOffset, .str y5.1.xComment, .bool y5.1.xWide], .int .i64 y5.2]) ((kf_33_eq y2.1).trans (by rw [qy5]; rfl)) g
  obtain ⟨i7, h8, oa9, S10⟩ := S0.alloc 62 [.int .i64 0, .int .i64 0, .int .i64 0, .int .i64 0, .str [], .bool false]
  have S12 : Sep h [] h8 [.blk i7 [.int .i64 0, .int .i64 0, .int .i64 0, .int .i64 0, .str [], .bool false] 62] := S10
  obtain ⟨h13, os14, S15⟩ := S12.store (P := Try.prog) 0 rfl (t := 62) (off := 0) (v := .agg [.int .i64 y5.1.xAt, .int .i64 y5.1.xCount, .int .i64 y5.1.xSize, .int .i64 y5.1.xOffset, .str y5.1.xComment, .bool y5.1.xWide]) (c' := [.int .i64 y5.1.xAt, .int .i64 y5.1.xCount, .int .i64 y5.1.xSize, .int .i64 y5.1.xOffset, .str y5.1.xComment, .bool y5.1.xWide]) rfl sz_62 rfl (by simp) rfl
  have S16 : Sep h [] h13 [.blk i7 [.int .i64 y5.1.xAt, .int .i64 y5.1.xCount, .int .i64 y5.1.xSize, .int .i64 y5.1.xOffset, .str y5.1.xComment, .bool y5.1.xWide] 62] := S15
  refine AE_joinR (fun e h' => h13 = h' ∧ e.length = 78 ∧ e.getD 1 .undef = .str y2.1 ∧ e.getD 2 .undef = .int .i64 y2.2 ∧ e.getD 3 .undef = .ptr i7 0 ∧ e.getD 4 .undef = .int .i64 y5.2) (by
    simp only [↓WE, WA, WL, aop, ofValue, ofCell, isConst, abin, acall1, abuiltin, aun, AV.cells, AV.one, Nat.reduceAdd, Int.reduceLT, Int.reduceLE, ↓WD, W0, evalOp, Nat.reduceEqDiff, Nat.reduceLT, ↓reduceIte, reduceCtorEq, hl, e1, e2, og6, zero_62, oa9, os14]
    exact ⟨rfl, (by simp only [List.length_set, hl]), (by simp only [W0, Nat.reduceEqDiff, Nat.reduceLT, ↓reduceIte, hl, e1, e2]), (by simp only [W0, Nat.reduceEqDiff, Nat.reduceLT, ↓reduceIte, hl, e1, e2]), (by simp only [W0, Nat.reduceEqDiff, Nat.reduceLT, ↓reduceIte, hl, e1, e2]), (by simp only [W0, Nat.reduceEqDiff, Nat.reduceLT, ↓reduceIte, hl, e1, e2])⟩) ?_
  rintro envg17 _ ⟨rfl, hl, e1, e2, e3, e4⟩
  try simp only [↓WD, W0, evalOp, Nat.reduceEqDiff, Nat.reduceLT, ↓reduceIte, reduceCtorEq, hl, e1, e2, e3, e4]
  rw [AW_region]
  obtain ⟨y18, qy18, hF⟩ := obind hF
  have og19 := fun (D : Drawn) (n : Nat) (g : AH) => call_hook (P := Try.prog) (D := D) k35 n (args := [.agg [.int .i64 3, .int .i64 0, .int .i64 0, .int .i64 3, .str [], .bool true]]) (v := .tup [.str y18.1, .int .i64 y18.2]) ((kf_35_eq (⟨3, 0, 0, 3, [], true⟩ : Gapi_End)).trans (by rw [qy18]; rfl)) g
  refine AE_joinR (fun e h' => h13 = h' ∧ e.length = 78 ∧ e.getD 1 .undef = .str y2.1 ∧ e.getD 2 .undef = .int .i64 y2.2 ∧ e.getD 3 .undef = .ptr i7 0 ∧ e.getD 4 .undef = .int .i64 y5.2 ∧ e.getD 5 .undef = .str y18.1 ∧ e.getD 6 .undef = .int .i64 y18.2) (by
    simp only [↓WE, WA, WL, aop, ofValue, ofCell, isConst, abin, acall1, abuiltin, aun, AV.cells, AV.one, Nat.reduceAdd, Int.reduceLT, Int.reduceLE, ↓WD, W0, evalOp, Nat.reduceEqDiff, Nat.reduceLT, ↓reduceIte, reduceCtorEq, hl, e1, e2, e3, e4, bd_62_0_3_5, og19]
    exact ⟨rfl, (by simp only [List.length_set, hl]), (by simp only [W0, Nat.reduceEqDiff, Nat.reduceLT, ↓reduceIte, hl, e1, e2, e3, e4]), (by simp only [W0, Nat.reduceEqDiff, Nat.reduceLT, ↓reduceIte, hl, e1, e2, e3, e4]), (by simp only [W0, Nat.reduceEqDiff, Nat.reduceLT, ↓reduceIte, hl, e1, e2, e3, e4]), (by simp only [W0, Nat.reduceEqDiff, Nat.reduceLT, ↓reduceIte, hl, e1, e2, e3, e4]), (by simp only [W0, Nat.reduceEqDiff, Nat.reduceLT, ↓reduceIte, hl, e1, e2, e3, e4]), (by simp only [W0, Nat.reduceEqDiff, Nat.reduceLT, ↓reduceIte, hl, e1, e2, e3, e4])⟩) ?_
  rintro envg20 _ ⟨rfl, hl, e1, e2, e3, e4, e5, e6⟩
  try simp only [↓WD, W0, evalOp, Nat.reduceEqDiff, Nat.reduceLT, ↓reduceIte, reduceCtorEq, hl, e1, e2, e3, e4, e5, e6]
  rw [AW_region]
  obtain ⟨s21, qs21, hF⟩ := obind hF
  have os21 := cat_str qs21
  obtain ⟨y22, qy22, hF⟩ := obind hF
  have og23 := fun (D : Drawn) (n : Nat) (g : AH) => call_hook (P := Try.prog) (D := D) k33 n (args := [.str s21]) (v := .tup [.agg [.int .i64 y22.1.xAt, .int .i64 y22.1.xCount, .int .i64 y22.1.xSize, .int .i64 y22.1.xOffset, .str y22.1.xComment, .bool y22.1.xWide], .int .i64 y22.2]) ((kf_33_eq s21).trans (by rw [qy22]; rfl)) g
  obtain ⟨i24, h25, oa26, S27⟩ := S16.alloc 62 [.int .i64 0, .int .i64 0, .int .i64 0, .int .i64 0, .str [], .bool false]
  have S29 : Sep h [] h25 [.blk i7 [.int .i64 y5.1.xAt, .int .i64 y5.1.xCount, .int .i64 y5.1.xSize, .int .i64 y5.1.xOffset, .str y5.1.xComment, .bool y5.1.xWide] 62, .blk i24 [.int .i64 0, .int .i64 0, .int .i64 0, .int .i64 0, .str [], .bool false] 62] := S27
  obtain ⟨h30, os31, S32⟩ := S29.store (P := Try.prog) 1 rfl (t := 62) (off := 0) (v := .agg [.int .i64 y22.1.xAt, .int .i64 y22.1.xCount, .int .i64 y22.1.xSize, .int .i64 y22.1.xOffset, .str y22.1.xComment, .bool y22.1.xWide]) (c' := [.int .i64 y22.1.xAt, .int .i64 y22.1.xCount, .int .i64 y22.1.xSize, .int .i64 y22.1.xOffset, .str y22.1.xComment, .bool y22.1.xWide]) rfl sz_62 rfl (by simp) rfl
  have S33 : Sep h [] h30 [.blk i7 [.int .i64 y5.1.xAt, .int .i64 y5.1.xCount, .int .i64 y5.1.xSize, .int .i64 y5.1.xOffset, .str y5.1.xComment, .bool y5.1.xWide] 62, .blk i24 [.int .i64 y22.1.xAt, .int .i64 y22.1.xCount, .int .i64 y22.1.xSize, .int .i64 y22.1.xOffset, .str y22.1.xComment, .bool y22.1.xWide] 62] := S32
  refine AE_joinR (fun e h' => h30 = h' ∧ e.length = 78 ∧ e.getD 1 .undef = .str y2.1 ∧ e.getD 2 .undef = .int .i64 y2.2 ∧ e.getD 3 .undef = .ptr i7 0 ∧ e.getD 4 .undef = .int .i64 y5.2 ∧ e.getD 5 .undef = .str y18.1 ∧ e.getD 6 .undef = .int .i64 y18.2 ∧ e.getD 7 .undef = .ptr i24 0 ∧ e.getD 8 .undef = .int .i64 y22.2) (by
    simp only [↓WE, WA, WL, aop, ofValue, ofCell, isConst, abin, acall1, abuiltin, aun, AV.cells, AV.one, Nat.reduceAdd, Int.reduceLT, Int.reduceLE, ↓WD, W0, evalOp, Nat.reduceEqDiff, Nat.reduceLT, ↓reduceIte, reduceCtorEq, hl, e1, e2, e3, e4, e5, e6, os21, og23, zero_62, oa26, os31]
    exact ⟨rfl, (by simp only [List.length_set, hl]), (by simp only [W0, Nat.reduceEqDiff, Nat.reduceLT, ↓reduceIte, hl, e1, e2, e3, e4, e5, e6]), (by simp only [W0, Nat.reduceEqDiff, Nat.reduceLT, ↓reduceIte, hl, e1, e2, e3, e4, e5, e6]), (by simp only [W0, Nat.reduceEqDiff, Nat.reduceLT, ↓reduceIte, hl, e1, e2, e3, e4, e5, e6]), (by simp only [W0, Nat.reduceEqDiff, Nat.reduceLT, ↓reduceIte, hl, e1, e2, e3, e4, e5, e6]), (by simp only [W0, Nat.reduceEqDiff, Nat.reduceLT, ↓reduceIte, hl, e1, e2, e3, e4, e5, e6]), (by simp only [W0, Nat.reduceEqDiff, Nat.reduceLT, ↓reduceIte, hl, e1, e2, e3, e4, e5, e6]), (by simp only [W0, Nat.reduceEqDiff, Nat.reduceLT, ↓reduceIte, hl, e1, e2, e3, e4, e5, e6]), (by simp only [W0, Nat.reduceEqDiff, Nat.reduceLT, ↓reduceIte, hl, e1, e2, e3, e4, e5, e6])⟩) ?_
  rintro envg34 _ ⟨rfl, hl, e1, e2, e3, e4, e5, e6, e7, e8⟩
  try simp only [↓WD, W0, evalOp, Nat.reduceEqDiff, Nat.reduceLT, ↓reduceIte, reduceCtorEq, hl, e1, e2, e3, e4, e5, e6, e7, e8]
  rw [AW_region]
  obtain ⟨y35, qy35, hF⟩ := obind hF
  have og36 := fun (D : Drawn) (n : Nat) (g : AH) => call_hook (P := Try.prog) (D := D) k33 n (args := [.str []]) (v := .tup [.agg [.int .i64 y35.1.xAt, .int .i64 y35.1.xCount, .int .i64 y35.1.xSize, .int .i64 y35.1.xOffset, .str y35.1.xComment, .bool y35.1.xWide], .int .i64 y35.2]) ((kf_33_eq []).trans (by rw [qy35]; rfl)) g
  obtain ⟨i37, h38, oa39, S40⟩ := S33.alloc 62 [.int .i64 0, .int .i64 0, .int .i64 0, .int .i64 0, .str [], .bool false]
  have S42 : Sep h [] h38 [.blk i7 [.int .i64 y5.1.xAt, .int .i64 y5.1.xCount, .int .i64 y5.1.xSize, .int .i64 y5.1.xOffset, .str y5.1.xComment, .bool y5.1.xWide] 62, .blk i24 [.int .i64 y22.1.xAt, .int .i64 y22.1.xCount, .int .i64 y22.1.xSize, .int .i64 y22.1.xOffset, .str y22.1.xComment, .bool y22.1.xWide] 62, .blk i37 [.int .i64 0, .int .i64 0, .int .i64 0, .int .i64 0, .str [], .bool false] 62] := S40
  obtain ⟨h43, os44, S45⟩ := S42.store (P := Try.prog) 2 rfl (t := 62) (off := 0) (v := .agg [.int .i64 y35.1.xAt, .int .i64 y35.1.xCount, .int .i64 y35.1.xSize, .int .i64 y35.1.xOffset, .str y35.1.xComment, .bool y35.1.xWide]) (c' := [.int .i64 y35.1.xAt, .int .i64 y35.1.xCount, .int .i64 y35.1.xSize, .int .i64 y35.1.xOffset, .str y35.1.xComment, .bool y35.1.xWide]) rfl sz_62 rfl (by simp) rfl
  have S46 : Sep h [] h43 [.blk i7 [.int .i64 y5.1.xAt, .int .i64 y5.1.xCount, .int .i64 y5.1.xSize, .int .i64 y5.1.xOffset, .str y5.1.xComment, .bool y5.1.xWide] 62, .blk i24 [.int .i64 y22.1.xAt, .int .i64 y22.1.xCount, .int .i64 y22.1.xSize, .int .i64 y22.1.xOffset, .str y22.1.xComment, .bool y22.1.xWide] 62, .blk i37 [.int .i64 y35.1.xAt, .int .i64 y35.1.xCount, .int .i64 y35.1.xSize, .int .i64 y35.1.xOffset, .str y35.1.xComment, .bool y35.1.xWide] 62] := S45
  refine AE_joinR (fun e h' => h43 = h' ∧ e.length = 78 ∧ e.getD 1 .undef = .str y2.1 ∧ e.getD 2 .undef = .int .i64 y2.2 ∧ e.getD 3 .undef = .ptr i7 0 ∧ e.getD 4 .undef = .int .i64 y5.2 ∧ e.getD 5 .undef = .str y18.1 ∧ e.getD 6 .undef = .int .i64 y18.2 ∧ e.getD 7 .undef = .ptr i24 0 ∧ e.getD 8 .undef = .int .i64 y22.2 ∧ e.getD 10 .undef = .int .i64 y35.2) (by
    simp only [↓WE, WA, WL, aop, ofValue, ofCell, isConst, abin, acall1, abuiltin, aun, AV.cells, AV.one, Nat.reduceAdd, Int.reduceLT, Int.reduceLE, ↓WD, W0, evalOp, Nat.reduceEqDiff, Nat.reduceLT, ↓reduceIte, reduceCtorEq, hl, e1, e2, e3, e4, e5, e6, e7, e8, og36, zero_62, oa39, os44]
    exact ⟨rfl, (by simp only [List.length_set, hl]), (by simp only [W0, Nat.reduceEqDiff, Nat.reduceLT, ↓reduceIte, hl, e1, e2, e3, e4, e5, e6, e7, e8]), (by simp only [W0, Nat.reduceEqDiff, Nat.reduceLT, ↓reduceIte, hl, e1, e2, e3, e4, e5, e6, e7, e8]), (by simp only [W0, Nat.reduceEqDiff, Nat.reduceLT, ↓reduceIte, hl, e1, e2, e3, e4, e5, e6, e7, e8]), (by simp only [W0, Nat.reduceEqDiff, Nat.reduceLT, ↓reduceIte, hl, e1, e2, e3, e4, e5, e6, e7, e8]), (by simp only [W0, Nat.reduceEqDiff, Nat.reduceLT, ↓reduceIte, hl, e1, e2, e3, e4, e5, e6, e7, e8]), (by simp only [W0, Nat.reduceEqDiff, Nat.reduceLT, ↓reduceIte, hl, e1, e2, e3, e4, e5, e6, e7, e8]), (by simp only [W0, Nat.reduceEqDiff, Nat.reduceLT, ↓reduceIte, hl, e1, e2, e3, e4, e5, e6, e7, e8]), (by simp only [W0, Nat.reduceEqDiff, Nat.reduceLT, ↓reduceIte, hl, e1, e2, e3, e4, e5, e6, e7, e8]), (by simp only [W0, Nat.reduceEqDiff, Nat.reduceLT, ↓reduceIte, hl, e1, e2, e3, e4, e5, e6, e7, e8])⟩) ?_
  rintro envg47 _ ⟨rfl, hl, e1, e2, e3, e4, e5, e6, e7, e8, e10⟩
  try simp only [↓WD, W0, evalOp, Nat.reduceEqDiff, Nat.reduceLT, ↓reduceIte, reduceCtorEq, hl, e1, e2, e3, e4, e5, e6, e7, e8, e10]
  rw [AW_region]
  obtain ⟨j80, qj80, hF⟩ := obind hF
  refine AE_joinR (fun e h' => e.length = 78 ∧ e.getD 0 .undef = .bool j80 ∧ Sep h [] h' []) ?_ ?_
  · simp only [↓WE, WA, WL, aop, ofValue, ofCell, isConst, abin, acall1, abuiltin, aun, AV.cells, AV.one, Nat.reduceAdd, Int.reduceLT, Int.reduceLE, ↓WD, W0, evalOp, Nat.reduceEqDiff, Nat.reduceLT, ↓reduceIte, reduceCtorEq, hl, e1, e2, e3, e4, e5, e6, e7, e8, e10]
    refine GuardW_boo (fun c48 => ?_) (fun c48 => ?_)
    · rw [if_pos c48] at qj80
      have d49 := c48
      have ol51 := fun g : AH => alen_str (P := Try.prog) (h := g) (l := y2.1) Try.underlying9
      simp only [↓WE, WA, WL, aop, ofValue, ofCell, isConst, abin, acall1, abuiltin, aun, AV.cells, AV.one, Nat.reduceAdd, Int.reduceLT, Int.reduceLE, ↓WD, W0, evalOp, Nat.reduceEqDiff, Nat.reduceLT, ↓reduceIte, reduceCtorEq, hl, e1, e2, e3, e4, e5, e6, e7, e8, e10, ol51, d49]
      refine GuardW_boo (fun c52 => ?_) (fun c52 => ?_)
      · rw [if_pos c52] at qj80
        have d53 := c52
        simp only [↓WE, WA, WL, aop, ofValue, ofCell, isConst, abin, acall1, abuiltin, aun, AV.cells, AV.one, Nat.reduceAdd, Int.reduceLT, Int.reduceLE, ↓WD, W0, evalOp, Nat.reduceEqDiff, Nat.reduceLT, ↓reduceIte, reduceCtorEq, hl, e1, e2, e3, e4, e5, e6, e7, e8, e10, ol51, d49, d53]
        refine GuardW_boo (fun c55 => ?_) (fun c55 => ?_)
        · rw [if_pos c55] at qj80
          have d56 := c55
          have ol58 := S46.load (P := Try.prog) 0 rfl (t := 9) (off := 4) (v := .str y5.1.xComment) (by simp only [apart, ag_9, sz_9]; rfl)
          simp only [↓WE, WA, WL, aop, ofValue, ofCell, isConst, abin, acall1, abuiltin, aun, AV.cells, AV.one, Nat.reduceAdd, Int.reduceLT, Int.reduceLE, ↓WD, W0, evalOp, Nat.reduceEqDiff, Nat.reduceLT, ↓reduceIte, reduceCtorEq, hl, e1, e2, e3, e4, e5, e6, e7, e8, e10, ol51, fa_62_4, ol58, d49, d53, d56]
          refine GuardW_boo (fun c59 => ?_) (fun c59 => ?_)
          · rw [if_pos c59] at qj80
            have d60 := c59
            simp only [↓WE, WA, WL, aop, ofValue, ofCell, isConst, abin, acall1, abuiltin, aun, AV.cells, AV.one, Nat.reduceAdd, Int.reduceLT, Int.reduceLE, ↓WD, W0, evalOp, Nat.reduceEqDiff, Nat.reduceLT, ↓reduceIte, reduceCtorEq, hl, e1, e2, e3, e4, e5, e6, e7, e8, e10, ol51, fa_62_4, ol58, d49, d53, d56, d60]
            refine GuardW_boo (fun c62 => ?_) (fun c62 => ?_)
            · rw [if_pos c62] at qj80
              have d63 := c62
              have ol65 := fun g : AH => alen_str (P := Try.prog) (h := g) (l := y18.1) Try.underlying9
              simp only [↓WE, WA, WL, aop, ofValue, ofCell, isConst, abin, acall1, abuiltin, aun, AV.cells, AV.one, Nat.reduceAdd, Int.reduceLT, Int.reduceLE, ↓WD, W0, evalOp, Nat.reduceEqDiff, Nat.reduceLT, ↓reduceIte, reduceCtorEq, hl, e1, e2, e3, e4, e5, e6, e7, e8, e10, ol51, fa_62_4, ol58, ol65, d49, d53, d56, d60, d63]
              refine GuardW_boo (fun c66 => ?_) (fun c66 => ?_)
              · rw [if_pos c66] at qj80
                have d67 := c66
                simp only [↓WE, WA, WL, aop, ofValue, ofCell, isConst, abin, acall1, abuiltin, aun, AV.cells, AV.one, Nat.reduceAdd, Int.reduceLT, Int.reduceLE, ↓WD, W0, evalOp, Nat.reduceEqDiff, Nat.reduceLT, ↓reduceIte, reduceCtorEq, hl, e1, e2, e3, e4, e5, e6, e7, e8, e10, ol51, fa_62_4, ol58, ol65, d49, d53, d56, d60, d63, d67]
                refine GuardW_boo (fun c69 => ?_) (fun c69 => ?_)
                · rw [if_pos c69] at qj80
                  have d70 := c69
                  have ol72 := S46.load (P := Try.prog) 1 rfl (t := 4) (off := 5) (v := .bool y22.1.xWide) (by simp only [apart, ag_4, sz_4]; rfl)
                  simp only [↓WE, WA, WL, aop, ofValue, ofCell, isConst, abin, acall1, abuiltin, aun, AV.cells, AV.one, Nat.reduceAdd, Int.reduceLT, Int.reduceLE, ↓WD, W0, evalOp, Nat.reduceEqDiff, Nat.reduceLT, ↓reduceIte, reduceCtorEq, hl, e1, e2, e3, e4, e5, e6, e7, e8, e10, ol51, fa_62_4, ol58, ol65, fa_62_5, ol72, d49, d53, d56, d60, d63, d67, d70]
                  refine GuardW_boo (fun c73 => ?_) (fun c73 => ?_)
                  · rw [if_pos c73] at qj80
                    have d74 := c73
                    have ol76 := S46.load (P := Try.prog) 1 rfl (t := 3) (off := 0) (v := .int .i64 y22.1.xAt) (by simp only [apart, ag_3, sz_3]; rfl)
                    simp only [↓WE, WA, WL, aop, ofValue, ofCell, isConst, abin, acall1, abuiltin, aun, AV.cells, AV.one, Nat.reduceAdd, Int.reduceLT, Int.reduceLE, ↓WD, W0, evalOp, Nat.reduceEqDiff, Nat.reduceLT, ↓reduceIte, reduceCtorEq, hl, e1, e2, e3, e4, e5, e6, e7, e8, e10, ol51, fa_62_4, ol58, ol65, fa_62_5, ol72, fa_62_0, ol76, d49, d53, d56, d60, d63, d67, d70, d74]
                    refine GuardW_boo (fun c77 => ?_) (fun c77 => ?_)
                    · rw [if_pos c77] at qj80
                      have d78 := c77
                      simp only [↓WE, WA, WL, aop, ofValue, ofCell, isConst, abin, acall1, abuiltin, aun, AV.cells, AV.one, Nat.reduceAdd, Int.reduceLT, Int.reduceLE, ↓WD, W0, evalOp, Nat.reduceEqDiff, Nat.reduceLT, ↓reduceIte, reduceCtorEq, hl, e1, e2, e3, e4, e5, e6, e7, e8, e10, ol51, fa_62_4, ol58, ol65, fa_62_5, ol72, fa_62_0, ol76, d49, d53, d56, d60, d63, d67, d70, d74, d78]
                      obtain rfl := Option.some.inj qj80
                      exact ⟨(by simp only [List.length_set, hl]), (by simp only [W0, Nat.reduceEqDiff, Nat.reduceLT, ↓reduceIte, hl, e1, e2, e3, e4, e5, e6, e7, e8, e10]), S46.pick [] (by decide) rfl⟩
                    · rw [if_neg (nf c77)] at qj80
                      have d79 := c77
                      simp only [↓WE, WA, WL, aop, ofValue, ofCell, isConst, abin, acall1, abuiltin, aun, AV.cells, AV.one, Nat.reduceAdd, Int.reduceLT, Int.reduceLE, ↓WD, W0, evalOp, Nat.reduceEqDiff, Nat.reduceLT, ↓reduceIte, reduceCtorEq, hl, e1, e2, e3, e4, e5, e6, e7, e8, e10, ol51, fa_62_4, ol58, ol65, fa_62_5, ol72, fa_62_0, ol76, d49, d53, d56, d60, d63, d67, d70, d74, d79]
                      obtain rfl := Option.some.inj qj80
                      exact ⟨(by simp only [List.length_set, hl]), (by simp only [W0, Nat.reduceEqDiff, Nat.reduceLT, ↓reduceIte, hl, e1, e2, e3, e4, e5, e6, e7, e8, e10]), S46.pick [] (by decide) rfl⟩
                  · rw [if_neg (nf c73)] at qj80
                    have d75 := c73
                    simp only [↓WE, WA, WL, aop, ofValue, ofCell, isConst, abin, acall1, abuiltin, aun, AV.cells, AV.one, Nat.reduceAdd, Int.reduceLT, Int.reduceLE, ↓WD, W0, evalOp, Nat.reduceEqDiff, Nat.reduceLT, ↓reduceIte, reduceCtorEq, hl, e1, e2, e3, e4, e5, e6, e7, e8, e10, ol51, fa_62_4, ol58, ol65, fa_62_5, ol72, d49, d53, d56, d60, d63, d67, d70, d75]
                    obtain rfl := Option.some.inj qj80
                    exact ⟨(by simp only [List.length_set, hl]), (by simp only [W0, Nat.reduceEqDiff, Nat.reduceLT, ↓reduceIte, hl, e1, e2, e3, e4, e5, e6, e7, e8, e10]), S46.pick [] (by decide) rfl⟩
                · rw [if_neg (nf c69)] at qj80
                  have d71 := c69
                  simp only [↓WE, WA, WL, aop, ofValue, ofCell, isConst, abin, acall1, abuiltin, aun, AV.cells, AV.one, Nat.reduceAdd, Int.reduceLT, Int.reduceLE, ↓WD, W0, evalOp, Nat.reduceEqDiff, Nat.reduceLT, ↓reduceIte, reduceCtorEq, hl, e1, e2, e3, e4, e5, e6, e7, e8, e10, ol51, fa_62_4, ol58, ol65, d49, d53, d56, d60, d63, d67, d71]
                  obtain rfl := Option.some.inj qj80
                  exact ⟨(by simp only [List.length_set, hl]), (by simp only [W0, Nat.reduceEqDiff, Nat.reduceLT, ↓reduceIte, hl, e1, e2, e3, e4, e5, e6, e7, e8, e10]), S46.pick [] (by decide) rfl⟩
              · rw [if_neg (nf c66)] at qj80
                have d68 := c66
                simp only [↓WE, WA, WL, aop, ofValue, ofCell, isConst, abin, acall1, abuiltin, aun, AV.cells, AV.one, Nat.reduceAdd, Int.reduceLT, Int.reduceLE, ↓WD, W0, evalOp, Nat.reduceEqDiff, Nat.reduceLT, ↓reduceIte, reduceCtorEq, hl, e1, e2, e3, e4, e5, e6, e7, e8, e10, ol51, fa_62_4, ol58, ol65, d49, d53, d56, d60, d63, d68]
                obtain rfl := Option.some.inj qj80
                exact ⟨(by simp only [List.length_set, hl]), (by simp only [W0, Nat.reduceEqDiff, Nat.reduceLT, ↓reduceIte, hl, e1, e2, e3, e4, e5, e6, e7, e8, e10]), S46.pick [] (by decide) rfl⟩
            · rw [if_neg (nf c62)] at qj80
              have d64 := c62
              simp only [↓WE, WA, WL, aop, ofValue, ofCell, isConst, abin, acall1, abuiltin, aun, AV.cells, AV.one, Nat.reduceAdd, Int.reduceLT, Int.reduceLE, ↓WD, W0, evalOp, Nat.reduceEqDiff, Nat.reduceLT, ↓reduceIte, reduceCtorEq, hl, e1, e2, e3, e4, e5, e6, e7, e8, e10, ol51, fa_62_4, ol58, d49, d53, d56, d60, d64]
              obtain rfl := Option.some.inj qj80
              exact ⟨(by simp only [List.length_set, hl]), (by simp only [W0, Nat.reduceEqDiff, Nat.reduceLT, ↓reduceIte, hl, e1, e2, e3, e4, e5, e6, e7, e8, e10]), S46.pick [] (by decide) rfl⟩
          · rw [if_neg (nf c59)] at qj80
            have d61 := c59
            simp only [↓WE, WA, WL, aop, ofValue, ofCell, isConst, abin, acall1, abuiltin, aun, AV.cells, AV.one, Nat.reduceAdd, Int.reduceLT, Int.reduceLE, ↓WD, W0, evalOp, Nat.reduceEqDiff, Nat.reduceLT, ↓reduceIte, reduceCtorEq, hl, e1, e2, e3, e4, e5, e6, e7, e8, e10, ol51, fa_62_4, ol58, d49, d53, d56, d61]
            obtain rfl := Option.some.inj qj80
            exact ⟨(by simp only [List.length_set, hl]), (by simp only [W0, Nat.reduceEqDiff, Nat.reduceLT, ↓reduceIte, hl, e1, e2, e3, e4, e5, e6, e7, e8, e10]), S46.pick [] (by decide) rfl⟩
        · rw [if_neg (nf c55)] at qj80
          have d57 := c55
          simp only [↓WE, WA, WL, aop, ofValue, ofCell, isConst, abin, acall1, abuiltin, aun, AV.cells, AV.one, Nat.reduceAdd, Int.reduceLT, Int.reduceLE, ↓WD, W0, evalOp, Nat.reduceEqDiff, Nat.reduceLT, ↓reduceIte, reduceCtorEq, hl, e1, e2, e3, e4, e5, e6, e7, e8, e10, ol51, d49, d53, d57]
          obtain rfl := Option.some.inj qj80
          exact ⟨(by simp only [List.length_set, hl]), (by simp only [W0, Nat.reduceEqDiff, Nat.reduceLT, ↓reduceIte, hl, e1, e2, e3, e4, e5, e6, e7, e8, e10]), S46.pick [] (by decide) rfl⟩
      · rw [if_neg (nf c52)] at qj80
        have d54 := c52
        simp only [↓WE, WA, WL, aop, ofValue, ofCell, isConst, abin, acall1, abuiltin, aun, AV.cells, AV.one, Nat.reduceAdd, Int.reduceLT, Int.reduceLE, ↓WD, W0, evalOp, Nat.reduceEqDiff, Nat.reduceLT, ↓reduceIte, reduceCtorEq, hl, e1, e2, e3, e4, e5, e6, e7, e8, e10, ol51, d49, d54]
        obtain rfl := Option.some.inj qj80
        exact ⟨(by simp only [List.length_set, hl]), (by simp only [W0, Nat.reduceEqDiff, Nat.reduceLT, ↓reduceIte, hl, e1, e2, e3, e4, e5, e6, e7, e8, e10]), S46.pick [] (by decide) rfl⟩
    · rw [if_neg (nf c48)] at qj80
      have d50 := c48
      simp only [↓WE, WA, WL, aop, ofValue, ofCell, isConst, abin, acall1, abuiltin, aun, AV.cells, AV.one, Nat.reduceAdd, Int.reduceLT, Int.reduceLE, ↓WD, W0, evalOp, Nat.reduceEqDiff, Nat.reduceLT, ↓reduceIte, reduceCtorEq, hl, e1, e2, e3, e4, e5, e6, e7, e8, e10, d50]
      obtain rfl := Option.some.inj qj80
      exact ⟨(by simp only [List.length_set, hl]), (by simp only [W0, Nat.reduceEqDiff, Nat.reduceLT, ↓reduceIte, hl, e1, e2, e3, e4, e5, e6, e7, e8, e10]), S46.pick [] (by decide) rfl⟩
  · rintro envj80 h82 ⟨hl, e0, S81⟩
    try simp only [↓WD, W0, evalOp, Nat.reduceEqDiff, Nat.reduceLT, ↓reduceIte, reduceCtorEq, hl, e0]
    refine KP_ret (vs := [.bool j80]) (by simp only [aresults, aresult, gs, List.length_set, Nat.reduceEqDiff, Nat.reduceLT, ↓reduceIte, hl, e0]) ?_
    obtain rfl := Option.some.inj hF
    exact ⟨rfl, S81⟩
set_option maxRecDepth 100000 in
set_option maxHeartbeats 4000000 in
theorem W_ref02_Cut {K : PureK} (n49 : K 49 = none) (m : Nat) (hm : NF + 1 ≤ m) (h : AH) (s_ : List UInt8) (at_ : Int) (n_ : Int) {r : (List UInt8) × Int} (hF : F_ref02_Cut s_ at_ n_ = some r) :
    AR (acall Try.prog (hooksOf K) (drawnOf Try.prog (tabOf K)) m 49 [.str s_, .int .i64 at_, .int .i64 n_] h) (fun v h' => v = .tup [.str r.1, .int .i64 r.2]) := by
  obtain ⟨m, rfl⟩ : ∃ k, m = k + 1 := ⟨m - 1, by omega⟩
  refine AR_call (hooksOf_none n49) Try.func49 rfl _ _ fun env hl he => ?_
  have e0 := he 0
  have e1 := he 1
  have e2 := he 2
  simp only [List.getD_cons_zero, List.getD_cons_succ] at e0 e1 e2
  simp only [Try.f49] at hl ⊢
  simp only [List.length_cons, List.length_nil, Nat.reduceAdd, Nat.reduceSub] at hl
  clear he
  have S0 : Sep h [] h [] := Sep.nil h
  rw [F_ref02_Cut] at hF
  try simp only [↓WD, W0, evalOp, Nat.reduceEqDiff, Nat.reduceLT, ↓reduceIte, reduceCtorEq, hl, e0, e1, e2]
  rw [AW_region]
  refine AE_joinR (fun e h' => h = h' ∧ e.length = 34 ∧ e.getD 0 .undef = .str s_ ∧ e.getD 1 .undef = .int .i64 at_ ∧ e.getD 2 .undef = .int .i64 n_) (by
    simp only [↓WE, WA, WL, aop, ofValue, ofCell, isConst, abin, acall1, abuiltin, aun, AV.cells, AV.one, Nat.reduceAdd, Int.reduceLT, Int.reduceLE, ↓WD, W0, evalOp, Nat.reduceEqDiff, Nat.reduceLT, ↓reduceIte, reduceCtorEq, hl, e0, e1, e2]
    exact ⟨rfl, (by simp only [List.length_set, hl]), (by simp only [W0, Nat.reduceEqDiff, Nat.reduceLT, ↓reduceIte, hl, e0, e1, e2]), (by simp only [W0, Nat.reduceEqDiff, Nat.reduceLT, ↓reduceIte, hl, e0, e1, e2]), (by simp only [W0, Nat.reduceEqDiff, Nat.reduceLT, ↓reduceIte, hl, e0, e1, e2])⟩) ?_
  rintro envg1 _ ⟨rfl, hl, e0, e1, e2⟩
  try simp only [↓WD, W0, evalOp, Nat.reduceEqDiff, Nat.reduceLT, ↓reduceIte, reduceCtorEq, hl, e0, e1, e2]
  rw [AW_region]
  obtain ⟨j13, qj13, hF⟩ := obind hF
  refine AE_joinR (fun e h' => e.length = 34 ∧ e.getD 0 .undef = .str s_ ∧ e.getD 1 .undef = .int .i64 at_ ∧ e.getD 2 .undef = .int .i64 n_ ∧ e.getD 27 .undef = .bool j13 ∧ Sep h [] h' []) ?_ ?_
  · simp only [↓WE, WA, WL, aop, ofValue, ofCell, isConst, abin, acall1, abuiltin, aun, AV.cells, AV.one, Nat.reduceAdd, Int.reduceLT, Int.reduceLE, ↓WD, W0, evalOp, Nat.reduceEqDiff, Nat.reduceLT, ↓reduceIte, reduceCtorEq, hl, e0, e1, e2]
    refine GuardW_dec (fun c2 => ?_) (fun c2 => ?_)
    · rw [if_pos c2] at qj13
      have d3 : (decide (at_ < 0)) = true := decide_eq_true c2
      simp only [↓WE, WA, WL, aop, ofValue, ofCell, isConst, abin, acall1, abuiltin, aun, AV.cells, AV.one, Nat.reduceAdd, Int.reduceLT, Int.reduceLE, ↓WD, W0, evalOp, Nat.reduceEqDiff, Nat.reduceLT, ↓reduceIte, reduceCtorEq, hl, e0, e1, e2, d3]
      obtain rfl := Option.some.inj qj13
      exact ⟨(by simp only [List.length_set, hl]), (by simp only [W0, Nat.reduceEqDiff, Nat.reduceLT, ↓reduceIte, hl, e0, e1, e2]), (by simp only [W0, Nat.reduceEqDiff, Nat.reduceLT, ↓reduceIte, hl, e0, e1, e2]), (by simp only [W0, Nat.reduceEqDiff, Nat.reduceLT, ↓reduceIte, hl, e0, e1, e2]), (by simp only [W0, Nat.reduceEqDiff, Nat.reduceLT, ↓reduceIte, hl, e0, e1, e2]), S0⟩
    · rw [if_neg c2] at qj13
      have d4 : (decide (at_ < 0)) = false := decide_eq_false c2
      simp only [↓WE, WA, WL, aop, ofValue, ofCell, isConst, abin, acall1, abuiltin, aun, AV.cells, AV.one, Nat.reduceAdd, Int.reduceLT, Int.reduceLE, ↓WD, W0, evalOp, Nat.reduceEqDiff, Nat.reduceLT, ↓reduceIte, reduceCtorEq, hl, e0, e1, e2, d4]
      refine GuardW_dec (fun c5 => ?_) (fun c5 => ?_)
      · rw [if_pos c5] at qj13
        have d6 : (decide (n_ < 0)) = true := decide_eq_true c5
        simp only [↓WE, WA, WL, aop, ofValue, ofCell, isConst, abin, acall1, abuiltin, aun, AV.cells, AV.one, Nat.reduceAdd, Int.reduceLT, Int.reduceLE, ↓WD, W0, evalOp, Nat.reduceEqDiff, Nat.reduceLT, ↓reduceIte, reduceCtorEq, hl, e0, e1, e2, d4, d6]
        obtain rfl := Option.some.inj qj13
        exact ⟨(by simp only [List.length_set, hl]), (by simp only [W0, Nat.reduceEqDiff, Nat.reduceLT, ↓reduceIte, hl, e0, e1, e2]), (by simp only [W0, Nat.reduceEqDiff, Nat.reduceLT, ↓reduceIte, hl, e0, e1, e2]), (by simp only [W0, Nat.reduceEqDiff, Nat.reduceLT, ↓reduceIte, hl, e0, e1, e2]), (by simp only [W0, Nat.reduceEqDiff, Nat.reduceLT, ↓reduceIte, hl, e0, e1, e2]), S0⟩
      · rw [if_neg c5] at qj13
        have d7 : (decide (n_ < 0)) = false := decide_eq_false c5
        have ol8 := fun g : AH => alen_str (P := Try.prog) (h := g) (l := s_) Try.underlying9
        simp only [↓WE, WA, WL, aop, ofValue, ofCell, isConst, abin, acall1, abuiltin, aun, AV.cells, AV.one, Nat.reduceAdd, Int.reduceLT, Int.reduceLE, ↓WD, W0, evalOp, Nat.reduceEqDiff, Nat.reduceLT, ↓reduceIte, reduceCtorEq, hl, e0, e1, e2, ol8, d4, d7]
        refine GuardW_dec (fun c9 => ?_) (fun c9 => ?_)
        · rw [if_pos c9] at qj13
          have d10 : (decide (at_ > (s_.length : Int))) = true := decide_eq_true c9
          simp only [↓WE, WA, WL, aop, ofValue, ofCell, isConst, abin, acall1, abuiltin, aun, AV.cells, AV.one, Nat.reduceAdd, Int.reduceLT, Int.reduceLE, ↓WD, W0, evalOp, Nat.reduceEqDiff, Nat.reduceLT, ↓reduceIte, reduceCtorEq, hl, e0, e1, e2, ol8, d4, d7, d10]
          obtain rfl := Option.some.inj qj13
          exact ⟨(by simp only [List.length_set, hl]), (by simp only [W0, Nat.reduceEqDiff, Nat.reduceLT, ↓reduceIte, hl, e0, e1, e2]), (by simp only [W0, Nat.reduceEqDiff, Nat.reduceLT, ↓reduceIte, hl, e0, e1, e2]), (by simp only [W0, Nat.reduceEqDiff, Nat.reduceLT, ↓reduceIte, hl, e0, e1, e2]), (by simp only [W0, Nat.reduceEqDiff, Nat.reduceLT, ↓reduceIte, hl, e0, e1, e2]), S0⟩
        · rw [if_neg c9] at qj13
          have d11 : (decide (at_ > (s_.length : Int))) = false := decide_eq_false c9
          have ol12 := fun g : AH => alen_str (P := Try.prog) (h := g) (l := s_) Try.underlying9
          simp only [↓WE, WA, WL, aop, ofValue, ofCell, isConst, abin, acall1, abuiltin, aun, AV.cells, AV.one, Nat.reduceAdd, Int.reduceLT, Int.reduceLE, ↓WD, W0, evalOp, Nat.reduceEqDiff, Nat.reduceLT, ↓reduceIte, reduceCtorEq, hl, e0, e1, e2, ol8, ol12, d4, d7, d11]
          obtain rfl := Option.some.inj qj13
          exact ⟨(by simp only [List.length_set, hl]), (by simp only [W0, Nat.reduceEqDiff, Nat.reduceLT, ↓reduceIte, hl, e0, e1, e2]), (by simp only [W0, Nat.reduceEqDiff, Nat.reduceLT, ↓reduceIte, hl, e0, e1, e2]), (by simp only [W0, Nat.reduceEqDiff, Nat.reduceLT, ↓reduceIte, hl, e0, e1, e2]), (by simp only [W0, Nat.reduceEqDiff, Nat.reduceLT, ↓reduceIte, hl, e0, e1, e2]), S0⟩
  · rintro envj13 h15 ⟨hl, e0, e1, e2, e27, S14⟩
    try simp only [↓WD, W0, evalOp, Nat.reduceEqDiff, Nat.reduceLT, ↓reduceIte, reduceCtorEq, hl, e0, e1, e2, e27]
    refine CondK_boo (fun c18 => ?_) (fun c18 => ?_)
    · rw [if_pos c18] at hF
      try simp only [↓WD, W0, evalOp, Nat.reduceEqDiff, Nat.reduceLT, ↓reduceIte, reduceCtorEq, hl, e0, e1, e2, e27]
      rw [AW_region]
      refine AE_joinR (fun e h' => h15 = h' ∧ e.length = 34 ∧ e.getD 6 .undef = .str [] ∧ e.getD 7 .undef = .int .i64 3) (by
        simp only [↓WE, WA, WL, aop, ofValue, ofCell, isConst, abin, acall1, abuiltin, aun, AV.cells, AV.one, Nat.reduceAdd, Int.reduceLT, Int.reduceLE, ↓WD, W0, evalOp, Nat.reduceEqDiff, Nat.reduceLT, ↓reduceIte, reduceCtorEq, hl, e0, e1, e2, e27]
        exact ⟨rfl, (by simp only [List.length_set, hl]), (by simp only [W0, Nat.reduceEqDiff, Nat.reduceLT, ↓reduceIte, hl, e0, e1, e2, e27]), (by simp only [W0, Nat.reduceEqDiff, Nat.reduceLT, ↓reduceIte, hl, e0, e1, e2, e27])⟩) ?_
      rintro envg19 _ ⟨rfl, hl, e6, e7⟩
      try simp only [↓WD, W0, evalOp, Nat.reduceEqDiff, Nat.reduceLT, ↓reduceIte, reduceCtorEq, hl, e6, e7]
      refine KP_ret (vs := [.str [], .int .i64 3]) (by simp only [aresults, aresult, gs, List.length_set, Nat.reduceEqDiff, Nat.reduceLT, ↓reduceIte, hl, e6, e7]) ?_
      obtain rfl := Option.some.inj hF
      exact rfl
    · rw [if_neg (nf c18)] at hF
      try simp only [↓WD, W0, evalOp, Nat.reduceEqDiff, Nat.reduceLT, ↓reduceIte, reduceCtorEq, hl, e0, e1, e2, e27]
      rw [AW_region]
      obtain ⟨s20, qs20, hF⟩ := obind hF
      have os20 := fun g : AH => sub_str (P := Try.prog) (h := g) (k := .i64) (k' := .i64) Try.underlying9 qs20
      refine AE_joinR (fun e h' => h15 = h' ∧ e.length = 34 ∧ e.getD 6 .undef = .str s20 ∧ e.getD 7 .undef = .int .i64 0) (by
        simp only [↓WE, WA, WL, aop, ofValue, ofCell, isConst, abin, acall1, abuiltin, aun, AV.cells, AV.one, Nat.reduceAdd, Int.reduceLT, Int.reduceLE, ↓WD, W0, evalOp, Nat.reduceEqDiff, Nat.reduceLT, ↓reduceIte, reduceCtorEq, hl, e0, e1, e2, e27, os20]
        exact ⟨rfl, (by simp only [List.length_set, hl]), (by simp only [W0, Nat.reduceEqDiff, Nat.reduceLT, ↓reduceIte, hl, e0, e1, e2, e27]), (by simp only [W0, Nat.reduceEqDiff, Nat.reduceLT, ↓reduceIte, hl, e0, e1, e2, e27])⟩) ?_
      rintro envg21 _ ⟨rfl, hl, e6, e7⟩
      try simp only [↓WD, W0, evalOp, Nat.reduceEqDiff, Nat.reduceLT, ↓reduceIte, reduceCtorEq, hl, e6, e7]
      refine KP_ret (vs := [.str s20, .int .i64 0]) (by simp only [aresults, aresult, gs, List.length_set, Nat.reduceEqDiff, Nat.reduceLT, ↓reduceIte, hl, e6, e7]) ?_
      obtain rfl := Option.some.inj hF
      exact rfl
set_option maxRecDepth 100000 in
set_option maxHeartbeats 4000000 in
theorem W_ref02_Num {K : PureK} (k49 : K 49 = some kf_49) (n53 : K 53 = none) (m : Nat) (hm : NF + 1 ≤ m) (h : AH) (s_ : List UInt8) (at_ : Int) (n_ : Int) {r : Int × Int} (hF : F_ref02_Num s_ at_ n_ = some r) :
    AR (acall Try.prog (hooksOf K) (drawnOf Try.prog (tabOf K)) m 53 [.str s_, .int .i64 at_, .int .i64 n_] h) (fun v h' => v = .tup [.int .u64 r.1, .int .i64 r.2]) := by
  obtain ⟨m, rfl⟩ : ∃ k, m = k + 1 := ⟨m - 1, by omega⟩
  refine AR_call (hooksOf_none n53) Try.func53 rfl _ _ fun env hl he => ?_
  have e0 := he 0
  have e1 := he 1
  have e2 := he 2
  simp only [List.getD_cons_zero, List.getD_cons_succ] at e0 e1 e2
  simp only [Try.f53] at hl ⊢
  simp only [List.length_cons, List.length_nil, Nat.reduceAdd, Nat.reduceSub] at hl
  clear he
  have S0 : Sep h [] h [] := Sep.nil h
  rw [F_ref02_Num] at hF
  try simp only [↓WD, W0, evalOp, Nat.reduceEqDiff, Nat.reduceLT, ↓reduceIte, reduceCtorEq, hl, e0, e1, e2]
  rw [AW_region]
  refine AE_joinR (fun e h' => h = h' ∧ e.length = 35 ∧ e.getD 0 .undef = .str s_ ∧ e.getD 1 .undef = .int .i64 at_ ∧ e.getD 2 .undef = .int .i64 n_) (by
    simp only [↓WE, WA, WL, aop, ofValue, ofCell, isConst, abin, acall1, abuiltin, aun, AV.cells, AV.one, Nat.reduceAdd, Int.reduceLT, Int.reduceLE, ↓WD, W0, evalOp, Nat.reduceEqDiff, Nat.reduceLT, ↓reduceIte, reduceCtorEq, hl, e0, e1, e2]
    exact ⟨rfl, (by simp only [List.length_set, hl]), (by simp only [W0, Nat.reduceEqDiff, Nat.reduceLT, ↓reduceIte, hl, e0, e1, e2]), (by simp only [W0, Nat.reduceEqDiff, Nat.reduceLT, ↓reduceIte, hl, e0, e1, e2]), (by simp only [W0, Nat.reduceEqDiff, Nat.reduceLT, ↓reduceIte, hl, e0, e1, e2])⟩) ?_
  rintro envg1 _ ⟨rfl, hl, e0, e1, e2⟩
  try simp only [↓WD, W0, evalOp, Nat.reduceEqDiff, Nat.reduceLT, ↓reduceIte, reduceCtorEq, hl, e0, e1, e2]
  rw [AW_region]
  obtain ⟨y2, qy2, hF⟩ := obind hF
  have og3 := fun (D : Drawn) (n : Nat) (g : AH) => call_hook (P := Try.prog) (D := D) k49 n (args := [.str s_, .int .i64 at_, .int .i64 n_]) (v := .tup [.str y2.1, .int .i64 y2.2]) ((kf_49_eq s_ at_ n_).trans (by rw [qy2]; rfl)) g
  refine AE_joinR (fun e h' => h = h' ∧ e.length = 35 ∧ e.getD 8 .undef = .str y2.1 ∧ e.getD 9 .undef = .int .i64 y2.2) (by
    simp only [↓WE, WA, WL, aop, ofValue, ofCell, isConst, abin, acall1, abuiltin, aun, AV.cells, AV.one, Nat.reduceAdd, Int.reduceLT, Int.reduceLE, ↓WD, W0, evalOp, Nat.reduceEqDiff, Nat.reduceLT, ↓reduceIte, reduceCtorEq, hl, e0, e1, e2, og3]
    exact ⟨rfl, (by simp only [List.length_set, hl]), (by simp only [W0, Nat.reduceEqDiff, Nat.reduceLT, ↓reduceIte, hl, e0, e1, e2]), (by simp only [W0, Nat.reduceEqDiff, Nat.reduceLT, ↓reduceIte, hl, e0, e1, e2])⟩) ?_
  rintro envg4 _ ⟨rfl, hl, e8, e9⟩
  try simp only [↓WD, W0, evalOp, Nat.reduceEqDiff, Nat.reduceLT, ↓reduceIte, reduceCtorEq, hl, e8, e9]
  rw [AW_region]
  refine AE_joinR (fun e h' => h = h' ∧ e.length = 35 ∧ e.getD 8 .undef = .str y2.1 ∧ e.getD 9 .undef = .int .i64 y2.2 ∧ e.getD 10 .undef = .int .u64 0) (by
    simp only [↓WE, WA, WL, aop, ofValue, ofCell, isConst, abin, acall1, abuiltin, aun, AV.cells, AV.one, Nat.reduceAdd, Int.reduceLT, Int.reduceLE, ↓WD, W0, evalOp, Nat.reduceEqDiff, Nat.reduceLT, ↓reduceIte, reduceCtorEq, hl, e8, e9]
    exact ⟨rfl, (by simp only [List.length_set, hl]), (by simp only [W0, Nat.reduceEqDiff, Nat.reduceLT, ↓reduceIte, hl, e8, e9]), (by simp only [W0, Nat.reduceEqDiff, Nat.reduceLT, ↓reduceIte, hl, e8, e9]), (by simp only [W0, Nat.reduceEqDiff, Nat.reduceLT, ↓reduceIte, hl, e8, e9])⟩) ?_
  rintro envg5 _ ⟨rfl, hl, e8, e9, e10⟩
  try simp only [↓WD, W0, evalOp, Nat.reduceEqDiff, Nat.reduceLT, ↓reduceIte, reduceCtorEq, hl, e8, e9, e10]
  rw [AW_region]
  have ol6 := fun g : AH => alen_str (P := Try.prog) (h := g) (l := y2.1) Try.underlying9
  refine AE_joinR (fun e h' => h = h' ∧ e.length = 35 ∧ e.getD 8 .undef = .str y2.1 ∧ e.getD 9 .undef = .int .i64 y2.2 ∧ e.getD 10 .undef = .int .u64 0 ∧ e.getD 11 .undef = .int .i64 (IntKind.i64.wrap ((y2.1.length : Int) - 1))) (by
    simp only [↓WE, WA, WL, aop, ofValue, ofCell, isConst, abin, acall1, abuiltin, aun, AV.cells, AV.one, Nat.reduceAdd, Int.reduceLT, Int.reduceLE, ↓WD, W0, evalOp, Nat.reduceEqDiff, Nat.reduceLT, ↓reduceIte, reduceCtorEq, hl, e8, e9, e10, ol6]
    exact ⟨rfl, (by simp only [List.length_set, hl]), (by simp only [W0, Nat.reduceEqDiff, Nat.reduceLT, ↓reduceIte, hl, e8, e9, e10]), (by simp only [W0, Nat.reduceEqDiff, Nat.reduceLT, ↓reduceIte, hl, e8, e9, e10]), (by simp only [W0, Nat.reduceEqDiff, Nat.reduceLT, ↓reduceIte, hl, e8, e9, e10]), (by simp only [W0, Nat.reduceEqDiff, Nat.reduceLT, ↓reduceIte, hl, e8, e9, e10])⟩) ?_
  rintro envg7 _ ⟨rfl, hl, e8, e9, e10, e11⟩
  try simp only [↓WD, W0, evalOp, Nat.reduceEqDiff, Nat.reduceLT, ↓reduceIte, reduceCtorEq, hl, e8, e9, e10, e11]
  obtain ⟨r26, qr26, hF⟩ := obind hF
  refine AW_lift (L_ref02_Num_1 y2) (fun s e h' => e.length = 35 ∧ e.getD 8 .undef = .str y2.1 ∧ e.getD 9 .undef = .int .i64 y2.2 ∧ e.getD 10 .undef = .int .u64 s.1 ∧ e.getD 11 .undef = .int .i64 s.2 ∧ Sep h [] h' []) (fun r26 x e h' => x = .exit 0 ∧ e.length = 35 ∧ e.getD 9 .undef = .int .i64 y2.2 ∧ e.getD 10 .undef = .int .u64 r26 ∧ Sep h [] h' []) qr26 (by omega) ?_ ?_ ?_
  · rintro s envr26 h17 or26 ⟨hl, e8, e9, e10, e11, S18⟩ wr26
    rw [L_ref02_Num_1] at wr26
    try simp only [↓WD, W0, evalOp, Nat.reduceEqDiff, Nat.reduceLT, ↓reduceIte, reduceCtorEq, hl, e8, e9, e10, e11]
    rw [AW_region]
    refine AE_joinR (fun e h' => h17 = h' ∧ e.length = 35 ∧ e.getD 8 .undef = .str y2.1 ∧ e.getD 9 .undef = .int .i64 y2.2 ∧ e.getD 10 .undef = .int .u64 s.1 ∧ e.getD 11 .undef = .int .i64 s.2 ∧ e.getD 23 .undef = .bool (decide (s.2 ≥ 0))) (by
      simp only [↓WE, WA, WL, aop, ofValue, ofCell, isConst, abin, acall1, abuiltin, aun, AV.cells, AV.one, Nat.reduceAdd, Int.reduceLT, Int.reduceLE, ↓WD, W0, evalOp, Nat.reduceEqDiff, Nat.reduceLT, ↓reduceIte, reduceCtorEq, hl, e8, e9, e10, e11]
      exact ⟨rfl, (by simp only [List.length_set, hl]), (by simp only [W0, Nat.reduceEqDiff, Nat.reduceLT, ↓reduceIte, hl, e8, e9, e10, e11]), (by simp only [W0, Nat.reduceEqDiff, Nat.reduceLT, ↓reduceIte, hl, e8, e9, e10, e11]), (by simp only [W0, Nat.reduceEqDiff, Nat.reduceLT, ↓reduceIte, hl, e8, e9, e10, e11]), (by simp only [W0, Nat.reduceEqDiff, Nat.reduceLT, ↓reduceIte, hl, e8, e9, e10, e11]), (by simp only [W0, Nat.reduceEqDiff, Nat.reduceLT, ↓reduceIte, hl, e8, e9, e10, e11])⟩) ?_
    rintro envg19 _ ⟨rfl, hl, e8, e9, e10, e11, e23⟩
    try simp only [↓WD, W0, evalOp, Nat.reduceEqDiff, Nat.reduceLT, ↓reduceIte, reduceCtorEq, hl, e8, e9, e10, e11, e23]
    refine CondK_dec (fun c21 => ?_) (fun c21 => ?_)
    · rw [if_pos c21] at wr26
      try simp only [↓WD, W0, evalOp, Nat.reduceEqDiff, Nat.reduceLT, ↓reduceIte, reduceCtorEq, hl, e8, e9, e10, e11, e23]
      rw [AW_region]
      obtain ⟨c22, qc22, wr26⟩ := obind wr26
      have oc22 := idx_str (P := Try.prog) (k := .i64) Try.underlying9 qc22
      have oc23 := fun g : AH => aconv_int (P := Try.prog) (h := g) (n := c22) (k' := .u8) Try.underlying5 Try.underlying25
      refine AE_joinR (fun e h' => h17 = h' ∧ e.length = 35 ∧ e.getD 8 .undef = .str y2.1 ∧ e.getD 9 .undef = .int .i64 y2.2 ∧ e.getD 10 .undef = .int .u64 (IntKind.u64.wrap ((IntKind.u64.wrap (256 * s.1)) + (IntKind.u64.wrap c22))) ∧ e.getD 11 .undef = .int .i64 s.2) (by
        simp only [↓WE, WA, WL, aop, ofValue, ofCell, isConst, abin, acall1, abuiltin, aun, AV.cells, AV.one, Nat.reduceAdd, Int.reduceLT, Int.reduceLE, ↓WD, W0, evalOp, Nat.reduceEqDiff, Nat.reduceLT, ↓reduceIte, reduceCtorEq, hl, e8, e9, e10, e11, e23, oc22, oc23]
        exact ⟨rfl, (by simp only [List.length_set, hl]), (by simp only [W0, Nat.reduceEqDiff, Nat.reduceLT, ↓reduceIte, hl, e8, e9, e10, e11, e23]), (by simp only [W0, Nat.reduceEqDiff, Nat.reduceLT, ↓reduceIte, hl, e8, e9, e10, e11, e23]), (by simp only [W0, Nat.reduceEqDiff, Nat.reduceLT, ↓reduceIte, hl, e8, e9, e10, e11, e23]), (by simp only [W0, Nat.reduceEqDiff, Nat.reduceLT, ↓reduceIte, hl, e8, e9, e10, e11, e23])⟩) ?_
      rintro envg24 _ ⟨rfl, hl, e8, e9, e10, e11⟩
      try simp only [↓WD, W0, evalOp, Nat.reduceEqDiff, Nat.reduceLT, ↓reduceIte, reduceCtorEq, hl, e8, e9, e10, e11]
      rw [AW_region]
      refine AE_joinR (fun e h' => h17 = h' ∧ e.length = 35 ∧ e.getD 8 .undef = .str y2.1 ∧ e.getD 9 .undef = .int .i64 y2.2 ∧ e.getD 10 .undef = .int .u64 (IntKind.u64.wrap ((IntKind.u64.wrap (256 * s.1)) + (IntKind.u64.wrap c22))) ∧ e.getD 11 .undef = .int .i64 (IntKind.i64.wrap (s.2 - 1))) (by
        simp only [↓WE, WA, WL, aop, ofValue, ofCell, isConst, abin, acall1, abuiltin, aun, AV.cells, AV.one, Nat.reduceAdd, Int.reduceLT, Int.reduceLE, ↓WD, W0, evalOp, Nat.reduceEqDiff, Nat.reduceLT, ↓reduceIte, reduceCtorEq, hl, e8, e9, e10, e11]
        exact ⟨rfl, (by simp only [List.length_set, hl]), (by simp only [W0, Nat.reduceEqDiff, Nat.reduceLT, ↓reduceIte, hl, e8, e9, e10, e11]), (by simp only [W0, Nat.reduceEqDiff, Nat.reduceLT, ↓reduceIte, hl, e8, e9, e10, e11]), (by simp only [W0, Nat.reduceEqDiff, Nat.reduceLT, ↓reduceIte, hl, e8, e9, e10, e11]), (by simp only [W0, Nat.reduceEqDiff, Nat.reduceLT, ↓reduceIte, hl, e8, e9, e10, e11])⟩) ?_
      rintro envg25 _ ⟨rfl, hl, e8, e9, e10, e11⟩
      try simp only [↓WD, W0, evalOp, Nat.reduceEqDiff, Nat.reduceLT, ↓reduceIte, reduceCtorEq, hl, e8, e9, e10, e11]
      obtain rfl := Option.some.inj wr26
      rw [KP_nil, QL_normal]
      exact ⟨_, rfl, (by simp only [List.length_set, hl]), (by simp only [W0, Nat.reduceEqDiff, Nat.reduceLT, ↓reduceIte, hl, e8, e9, e10, e11]), (by simp only [W0, Nat.reduceEqDiff, Nat.reduceLT, ↓reduceIte, hl, e8, e9, e10, e11]), (by simp only [W0, Nat.reduceEqDiff, Nat.reduceLT, ↓reduceIte, hl, e8, e9, e10, e11]), (by simp only [W0, Nat.reduceEqDiff, Nat.reduceLT, ↓reduceIte, hl, e8, e9, e10, e11]), S18⟩
    · rw [if_neg c21] at wr26
      try simp only [↓WD, W0, evalOp, Nat.reduceEqDiff, Nat.reduceLT, ↓reduceIte, reduceCtorEq, hl, e8, e9, e10, e11, e23]
      obtain rfl := Option.some.inj wr26
      rw [KP_nil, QL_exit]
      exact ⟨_, rfl, rfl, (by simp only [List.length_set, hl]), (by simp only [W0, Nat.reduceEqDiff, Nat.reduceLT, ↓reduceIte, hl, e8, e9, e10, e11, e23]), (by simp only [W0, Nat.reduceEqDiff, Nat.reduceLT, ↓reduceIte, hl, e8, e9, e10, e11, e23]), S18⟩
  · exact ⟨(by simp only [List.length_set, hl]), (by simp only [W0, Nat.reduceEqDiff, Nat.reduceLT, ↓reduceIte, hl, e8, e9, e10, e11]), (by simp only [W0, Nat.reduceEqDiff, Nat.reduceLT, ↓reduceIte, hl, e8, e9, e10, e11]), (by simp only [W0, Nat.reduceEqDiff, Nat.reduceLT, ↓reduceIte, hl, e8, e9, e10, e11]), (by simp only [W0, Nat.reduceEqDiff, Nat.reduceLT, ↓reduceIte, hl, e8, e9, e10, e11]), S0⟩
  · rintro x envr26 h27 ⟨rfl, hl, e9, e10, S28⟩
    try simp only [↓WD, W0, evalOp, Nat.reduceEqDiff, Nat.reduceLT, ↓reduceIte, reduceCtorEq, hl, e9, e10]
    rw [AW_region]
    refine AE_joinR (fun e h' => h27 = h' ∧ e.length = 35 ∧ e.getD 6 .undef = .int .u64 r26 ∧ e.getD 7 .undef = .int .i64 y2.2) (by
      simp only [↓WE, WA, WL, aop, ofValue, ofCell, isConst, abin, acall1, abuiltin, aun, AV.cells, AV.one, Nat.reduceAdd, Int.reduceLT, Int.reduceLE, ↓WD, W0, evalOp, Nat.reduceEqDiff, Nat.reduceLT, ↓reduceIte, reduceCtorEq, hl, e9, e10]
      exact ⟨rfl, (by simp only [List.length_set, hl]), (by simp only [W0, Nat.reduceEqDiff, Nat.reduceLT, ↓reduceIte, hl, e9, e10]), (by simp only [W0, Nat.reduceEqDiff, Nat.reduceLT, ↓reduceIte, hl, e9, e10])⟩) ?_
    rintro envg29 _ ⟨rfl, hl, e6, e7⟩
    try simp only [↓WD, W0, evalOp, Nat.reduceEqDiff, Nat.reduceLT, ↓reduceIte, reduceCtorEq, hl, e6, e7]
    refine KP_ret (vs := [.int .u64 r26, .int .i64 y2.2]) (by simp only [aresults, aresult, gs, List.length_set, Nat.reduceEqDiff, Nat.reduceLT, ↓reduceIte, hl, e6, e7]) ?_
    obtain rfl := Option.some.inj hF
    exact rfl
set_option maxRecDepth 100000 in
set_option maxHeartbeats 4000000 in
theorem W_ref02_U32 {K : PureK} (k53 : K 53 = some kf_53) (n59 : K 59 = none) (m : Nat) (hm : NF + 1 ≤ m) (h : AH) (s_ : List UInt8) (at_ : Int) {r : Int} (hF : F_ref02_U32 s_ at_ = some r) :
    AR (acall Try.prog (hooksOf K) (drawnOf Try.prog (tabOf K)) m 59 [.str s_, .int .i64 at_] h) (fun v h' => v = .int .i64 r) := by
  obtain ⟨m, rfl⟩ : ∃ k, m = k + 1 := ⟨m - 1, by omega⟩
  refine AR_call (hooksOf_none n59) Try.func59 rfl _ _ fun env hl he => ?_
  have e0 := he 0
  have e1 := he 1
  simp only [List.getD_cons_zero, List.getD_cons_succ] at e0 e1
  simp only [Try.f59] at hl ⊢
  simp only [List.length_cons, List.length_nil, Nat.reduceAdd, Nat.reduceSub] at hl
  clear he
  have S0 : Sep h [] h [] := Sep.nil h
  rw [F_ref02_U32] at hF
  try simp only [↓WD, W0, evalOp, Nat.reduceEqDiff, Nat.reduceLT, ↓reduceIte, reduceCtorEq, hl, e0, e1]
  rw [AW_region]
  refine AE_joinR (fun e h' => h = h' ∧ e.length = 15 ∧ e.getD 0 .undef = .str s_ ∧ e.getD 1 .undef = .int .i64 at_) (by
    simp only [↓WE, WA, WL, aop, ofValue, ofCell, isConst, abin, acall1, abuiltin, aun, AV.cells, AV.one, Nat.reduceAdd, Int.reduceLT, Int.reduceLE, ↓WD, W0, evalOp, Nat.reduceEqDiff, Nat.reduceLT, ↓reduceIte, reduceCtorEq, hl, e0, e1]
    exact ⟨rfl, (by simp only [List.length_set, hl]), (by simp only [W0, Nat.reduceEqDiff, Nat.reduceLT, ↓reduceIte, hl, e0, e1]), (by simp only [W0, Nat.reduceEqDiff, Nat.reduceLT, ↓reduceIte, hl, e0, e1])⟩) ?_
  rintro envg1 _ ⟨rfl, hl, e0, e1⟩
  try simp only [↓WD, W0, evalOp, Nat.reduceEqDiff, Nat.reduceLT, ↓reduceIte, reduceCtorEq, hl, e0, e1]
  rw [AW_region]
  obtain ⟨y2, qy2, hF⟩ := obind hF
  have og3 := fun (D : Drawn) (n : Nat) (g : AH) => call_hook (P := Try.prog) (D := D) k53 n (args := [.str s_, .int .i64 at_, .int .i64 4]) (v := .tup [.int .u64 y2.1, .int .i64 y2.2]) ((kf_53_eq s_ at_ 4).trans (by rw [qy2]; rfl)) g
  refine AE_joinR (fun e h' => h = h' ∧ e.length = 15 ∧ e.getD 5 .undef = .int .u64 y2.1) (by
    simp only [↓WE, WA, WL, aop, ofValue, ofCell, isConst, abin, acall1, abuiltin, aun, AV.cells, AV.one, Nat.reduceAdd, Int.reduceLT, Int.reduceLE, ↓WD, W0, evalOp, Nat.reduceEqDiff, Nat.reduceLT, ↓reduceIte, reduceCtorEq, hl, e0, e1, og3]
    exact ⟨rfl, (by simp only [List.length_set, hl]), (by simp only [W0, Nat.reduceEqDiff, Nat.reduceLT, ↓reduceIte, hl, e0, e1])⟩) ?_
  rintro envg4 _ ⟨rfl, hl, e5⟩
  try simp only [↓WD, W0, evalOp, Nat.reduceEqDiff, Nat.reduceLT, ↓reduceIte, reduceCtorEq, hl, e5]
  rw [AW_region]
  have oc5 := fun g : AH => aconv_int (P := Try.prog) (h := g) (n := y2.1) (k' := .u64) Try.underlying25 Try.underlying3
  refine AE_joinR (fun e h' => h = h' ∧ e.length = 15 ∧ e.getD 4 .undef = .int .i64 (IntKind.i64.wrap y2.1)) (by
    simp only [↓WE, WA, WL, aop, ofValue, ofCell, isConst, abin, acall1, abuiltin, aun, AV.cells, AV.one, Nat.reduceAdd, Int.reduceLT, Int.reduceLE, ↓WD, W0, evalOp, Nat.reduceEqDiff, Nat.reduceLT, ↓reduceIte, reduceCtorEq, hl, e5, oc5]
    exact ⟨rfl, (by simp only [List.length_set, hl]), (by simp only [W0, Nat.reduceEqDiff, Nat.reduceLT, ↓reduceIte, hl, e5])⟩) ?_
  rintro envg6 _ ⟨rfl, hl, e4⟩
  try simp only [↓WD, W0, evalOp, Nat.reduceEqDiff, Nat.reduceLT, ↓reduceIte, reduceCtorEq, hl, e4]
  refine KP_ret (vs := [.int .i64 (IntKind.i64.wrap y2.1)]) (by simp only [aresults, aresult, gs, List.length_set, Nat.reduceEqDiff, Nat.reduceLT, ↓reduceIte, hl, e4]) ?_
  obtain rfl := Option.some.inj hF
  exact rfl
set_option maxRecDepth 100000 in
set_option maxHeartbeats 4000000 in
theorem W_ref02_U16 {K : PureK} (k53 : K 53 = some kf_53) (n48 : K 48 = none) (m : Nat) (hm : NF + 1 ≤ m) (h : AH) (s_ : List UInt8) (at_ : Int) {r : Int} (hF : F_ref02_U16 s_ at_ = some r) :
    AR (acall Try.prog (hooksOf K) (drawnOf Try.prog (tabOf K)) m 48 [.str s_, .int .i64 at_] h) (fun v h' => v = .int .i64 r) := by
  obtain ⟨m, rfl⟩ : ∃ k, m = k + 1 := ⟨m - 1, by omega⟩
  refine AR_call (hooksOf_none n48) Try.func48 rfl _ _ fun env hl he => ?_
  have e0 := he 0
  have e1 := he 1
  simp only [List.getD_cons_zero, List.getD_cons_succ] at e0 e1
  simp only [Try.f48] at hl ⊢
  simp only [List.length_cons, List.length_nil, Nat.reduceAdd, Nat.reduceSub] at hl
  clear he
  have S0 : Sep h [] h [] := Sep.nil h
  rw [F_ref02_U16] at hF
  try simp only [↓WD, W0, evalOp, Nat.reduceEqDiff, Nat.reduceLT, ↓reduceIte, reduceCtorEq, hl, e0, e1]
  rw [AW_region]
  refine AE_joinR (fun e h' => h = h' ∧ e.length = 15 ∧ e.getD 0 .undef = .str s_ ∧ e.getD 1 .undef = .int .i64 at_) (by
    simp only [↓WE, WA, WL, aop, ofValue, ofCell, isConst, abin, acall1, abuiltin, aun, AV.cells, AV.one, Nat.reduceAdd, Int.reduceLT, Int.reduceLE, ↓WD, W0, evalOp, Nat.reduceEqDiff, Nat.reduceLT, ↓reduceIte, reduceCtorEq, hl, e0, e1]
    exact ⟨rfl, (by simp only [List.length_set, hl]), (by simp only [W0, Nat.reduceEqDiff, Nat.reduceLT, ↓reduceIte, hl, e0, e1]), (by simp only [W0, Nat.reduceEqDiff, Nat.reduceLT, ↓reduceIte, hl, e0, e1])⟩) ?_
  rintro envg1 _ ⟨rfl, hl, e0, e1⟩
  try simp only [↓WD, W0, evalOp, Nat.reduceEqDiff, Nat.reduceLT, ↓reduceIte, reduceCtorEq, hl, e0, e1]
  rw [AW_region]
  obtain ⟨y2, qy2, hF⟩ := obind hF
  have og3 := fun (D : Drawn) (n : Nat) (g : AH) => call_hook (P := Try.prog) (D := D) k53 n (args := [.str s_, .int .i64 at_, .int .i64 2]) (v := .tup [.int .u64 y2.1, .int .i64 y2.2]) ((kf_53_eq s_ at_ 2).trans (by rw [qy2]; rfl)) g
  refine AE_joinR (fun e h' => h = h' ∧ e.length = 15 ∧ e.getD 5 .undef = .int .u64 y2.1) (by
    simp only [↓WE, WA, WL, aop, ofValue, ofCell, isConst, abin, acall1, abuiltin, aun, AV.cells, AV.one, Nat.reduceAdd, Int.reduceLT, Int.reduceLE, ↓WD, W0, evalOp, Nat.reduceEqDiff, Nat.reduceLT, ↓reduceIte, reduceCtorEq, hl, e0, e1, og3]
    exact ⟨rfl, (by simp only [List.length_set, hl]), (by simp only [W0, Nat.reduceEqDiff, Nat.reduceLT, ↓reduceIte, hl, e0, e1])⟩) ?_
  rintro envg4 _ ⟨rfl, hl, e5⟩
  try simp only [↓WD, W0, evalOp, Nat.reduceEqDiff, Nat.reduceLT, ↓reduceIte, reduceCtorEq, hl, e5]
  rw [AW_region]
  have oc5 := fun g : AH => aconv_int (P := Try.prog) (h := g) (n := y2.1) (k' := .u64) Try.underlying25 Try.underlying3
  refine AE_joinR (fun e h' => h = h' ∧ e.length = 15 ∧ e.getD 4 .undef = .int .i64 (IntKind.i64.wrap y2.1)) (by
    simp only [↓WE, WA, WL, aop, ofValue, ofCell, isConst, abin, acall1, abuiltin, aun, AV.cells, AV.one, Nat.reduceAdd, Int.reduceLT, Int.reduceLE, ↓WD, W0, evalOp, Nat.reduceEqDiff, Nat.reduceLT, ↓reduceIte, reduceCtorEq, hl, e5, oc5]
    exact ⟨rfl, (by simp only [List.length_set, hl]), (by simp only [W0, Nat.reduceEqDiff, Nat.reduceLT, ↓reduceIte, hl, e5])⟩) ?_
  rintro envg6 _ ⟨rfl, hl, e4⟩
  try simp only [↓WD, W0, evalOp, Nat.reduceEqDiff, Nat.reduceLT, ↓reduceIte, reduceCtorEq, hl, e4]
  refine KP_ret (vs := [.int .i64 (IntKind.i64.wrap y2.1)]) (by simp only [aresults, aresult, gs, List.length_set, Nat.reduceEqDiff, Nat.reduceLT, ↓reduceIte, hl, e4]) ?_
  obtain rfl := Option.some.inj hF
  exact rfl
set_option maxRecDepth 100000 in
set_option maxHeartbeats 4000000 in
theorem W_ref19_record {K : PureK} (k48 : K 48 = some kf_48) (k59 : K 59 = some kf_59) (n58 : K 58 = none) (m : Nat) (hm : NF + 1 ≤ m) (h : AH) (s_ : List UInt8) {r : Int} (hF : F_ref19_record s_ = some r) :
    AR (acall Try.prog (hooksOf K) (drawnOf Try.prog (tabOf K)) m 58 [.str s_] h) (fun v h' => v = .int .i64 r) := by
  obtain ⟨m, rfl⟩ : ∃ k, m = k + 1 := ⟨m - 1, by omega⟩
  refine AR_call (hooksOf_none n58) Try.func58 rfl _ _ fun env hl he => ?_
  have e0 := he 0
  simp only [List.getD_cons_zero, List.getD_cons_succ] at e0
  simp only [Try.f58] at hl ⊢
  simp only [List.length_cons, List.length_nil, Nat.reduceAdd, Nat.reduceSub] at hl
  clear he
  have S0 : Sep h [] h [] := Sep.nil h
  rw [F_ref19_record] at hF
  try simp only [↓WD, W0, evalOp, Nat.reduceEqDiff, Nat.reduceLT, ↓reduceIte, reduceCtorEq, hl, e0]
  rw [AW_region]
  refine AE_joinR (fun e h' => h = h' ∧ e.length = 28 ∧ e.getD 0 .undef = .str s_) (by
    simp only [↓WE, WA, WL, aop, ofValue, ofCell, isConst, abin, acall1, abuiltin, aun, AV.cells, AV.one, Nat.reduceAdd, Int.reduceLT, Int.reduceLE, ↓WD, W0, evalOp, Nat.reduceEqDiff, Nat.reduceLT, ↓reduceIte, reduceCtorEq, hl, e0]
    exact ⟨rfl, (by simp only [List.length_set, hl]), (by simp only [W0, Nat.reduceEqDiff, Nat.reduceLT, ↓reduceIte, hl, e0])⟩) ?_
  rintro envg1 _ ⟨rfl, hl, e0⟩
  try simp only [↓WD, W0, evalOp, Nat.reduceEqDiff, Nat.reduceLT, ↓reduceIte, reduceCtorEq, hl, e0]
  rw [AW_region]
  have ol2 := fun g : AH => alen_str (P := Try.prog) (h := g) (l := s_) Try.underlying9
  refine AE_joinR (fun e h' => h = h' ∧ e.length = 28 ∧ e.getD 0 .undef = .str s_ ∧ e.getD 3 .undef = .int .i64 (IntKind.i64.wrap ((s_.length : Int) - 22))) (by
    simp only [↓WE, WA, WL, aop, ofValue, ofCell, isConst, abin, acall1, abuiltin, aun, AV.cells, AV.one, Nat.reduceAdd, Int.reduceLT, Int.reduceLE, ↓WD, W0, evalOp, Nat.reduceEqDiff, Nat.reduceLT, ↓reduceIte, reduceCtorEq, hl, e0, ol2]
    exact ⟨rfl, (by simp only [List.length_set, hl]), (by simp only [W0, Nat.reduceEqDiff, Nat.reduceLT, ↓reduceIte, hl, e0]), (by simp only [W0, Nat.reduceEqDiff, Nat.reduceLT, ↓reduceIte, hl, e0])⟩) ?_
  rintro envg3 _ ⟨rfl, hl, e0, e3⟩
  try simp only [↓WD, W0, evalOp, Nat.reduceEqDiff, Nat.reduceLT, ↓reduceIte, reduceCtorEq, hl, e0, e3]
  obtain ⟨r46, qr46, hF⟩ := obind hF
  refine AW_lift (L_ref19_record_1 s_) (fun s e h' => e.length = 28 ∧ e.getD 0 .undef = .str s_ ∧ e.getD 3 .undef = .int .i64 s ∧ Sep h [] h' []) (fun r46 x e h' => (∃ (t47 : Unit), r46 = (.inl t47) ∧ x = .exit 0 ∧ e.length = 28 ∧ Sep h [] h' []) ∨ (∃ (t50 : Int), r46 = (.inr t50) ∧ x = .ret ∧ e.length = 28 ∧ e.getD 2 .undef = .int .i64 t50 ∧ Sep h [] h' [])) qr46 (by omega) ?_ ?_ ?_
  · rintro s envr46 h25 or46 ⟨hl, e0, e3, S26⟩ wr46
    rw [L_ref19_record_1] at wr46
    try simp only [↓WD, W0, evalOp, Nat.reduceEqDiff, Nat.reduceLT, ↓reduceIte, reduceCtorEq, hl, e0, e3]
    rw [AW_region]
    refine AE_joinR (fun e h' => h25 = h' ∧ e.length = 28 ∧ e.getD 0 .undef = .str s_ ∧ e.getD 3 .undef = .int .i64 s ∧ e.getD 8 .undef = .bool (decide (s ≥ 0))) (by
      simp only [↓WE, WA, WL, aop, ofValue, ofCell, isConst, abin, acall1, abuiltin, aun, AV.cells, AV.one, Nat.reduceAdd, Int.reduceLT, Int.reduceLE, ↓WD, W0, evalOp, Nat.reduceEqDiff, Nat.reduceLT, ↓reduceIte, reduceCtorEq, hl, e0, e3]
      exact ⟨rfl, (by simp only [List.length_set, hl]), (by simp only [W0, Nat.reduceEqDiff, Nat.reduceLT, ↓reduceIte, hl, e0, e3]), (by simp only [W0, Nat.reduceEqDiff, Nat.reduceLT, ↓reduceIte, hl, e0, e3]), (by simp only [W0, Nat.reduceEqDiff, Nat.reduceLT, ↓reduceIte, hl, e0, e3])⟩) ?_
    rintro envg27 _ ⟨rfl, hl, e0, e3, e8⟩
    try simp only [↓WD, W0, evalOp, Nat.reduceEqDiff, Nat.reduceLT, ↓reduceIte, reduceCtorEq, hl, e0, e3, e8]
    refine CondK_dec (fun c29 => ?_) (fun c29 => ?_)
    · rw [if_pos c29] at wr46
      try simp only [↓WD, W0, evalOp, Nat.reduceEqDiff, Nat.reduceLT, ↓reduceIte, reduceCtorEq, hl, e0, e3, e8]
      rw [AW_region]
      obtain ⟨j38, qj38, wr46⟩ := obind wr46
      refine AE_joinR (fun e h' => e.length = 28 ∧ e.getD 0 .undef = .str s_ ∧ e.getD 3 .undef = .int .i64 s ∧ e.getD 26 .undef = .bool j38 ∧ Sep h [] h' []) ?_ ?_
      · obtain ⟨y30, qy30, qj38⟩ := obind qj38
        have og31 := fun (D : Drawn) (n : Nat) (g : AH) => call_hook (P := Try.prog) (D := D) k59 n (args := [.str s_, .int .i64 s]) (v := .int .i64 y30) ((kf_59_eq s_ s).trans (by rw [qy30]; rfl)) g
        simp only [↓WE, WA, WL, aop, ofValue, ofCell, isConst, abin, acall1, abuiltin, aun, AV.cells, AV.one, Nat.reduceAdd, Int.reduceLT, Int.reduceLE, ↓WD, W0, evalOp, Nat.reduceEqDiff, Nat.reduceLT, ↓reduceIte, reduceCtorEq, hl, e0, e3, e8, og31]
        refine GuardW_boo (fun c32 => ?_) (fun c32 => ?_)
        · rw [if_pos c32] at qj38
          have d33 := c32
          obtain ⟨y35, qy35, qj38⟩ := obind qj38
          have og36 := fun (D : Drawn) (n : Nat) (g : AH) => call_hook (P := Try.prog) (D := D) k48 n (args := [.str s_, .int .i64 (IntKind.i64.wrap (s + 20))]) (v := .int .i64 y35) ((kf_48_eq s_ (IntKind.i64.wrap (s + 20))).trans (by rw [qy35]; rfl)) g
          have ol37 := fun g : AH => alen_str (P := Try.prog) (h := g) (l := s_) Try.underlying9
          simp only [↓WE, WA, WL, aop, ofValue, ofCell, isConst, abin, acall1, abuiltin, aun, AV.cells, AV.one, Nat.reduceAdd, Int.reduceLT, Int.reduceLE, ↓WD, W0, evalOp, Nat.reduceEqDiff, Nat.reduceLT, ↓reduceIte, reduceCtorEq, hl, e0, e3, e8, og31, og36, ol37, d33]
          obtain rfl := Option.some.inj qj38
          exact ⟨(by simp only [List.length_set, hl]), (by simp only [W0, Nat.reduceEqDiff, Nat.reduceLT, ↓reduceIte, hl, e0, e3, e8]), (by simp only [W0, Nat.reduceEqDiff, Nat.reduceLT, ↓reduceIte, hl, e0, e3, e8]), (by simp only [W0, Nat.reduceEqDiff, Nat.reduceLT, ↓reduceIte, hl, e0, e3, e8]), S26⟩
        · rw [if_neg (nf c32)] at qj38
          have d34 := c32
          simp only [↓WE, WA, WL, aop, ofValue, ofCell, isConst, abin, acall1, abuiltin, aun, AV.cells, AV.one, Nat.reduceAdd, Int.reduceLT, Int.reduceLE, ↓WD, W0, evalOp, Nat.reduceEqDiff, Nat.reduceLT, ↓reduceIte, reduceCtorEq, hl, e0, e3, e8, og31, d34]
          obtain rfl := Option.some.inj qj38
          exact ⟨(by simp only [List.length_set, hl]), (by simp only [W0, Nat.reduceEqDiff, Nat.reduceLT, ↓reduceIte, hl, e0, e3, e8]), (by simp only [W0, Nat.reduceEqDiff, Nat.reduceLT, ↓reduceIte, hl, e0, e3, e8]), (by simp only [W0, Nat.reduceEqDiff, Nat.reduceLT, ↓reduceIte, hl, e0, e3, e8]), S26⟩
      · rintro envj38 h40 ⟨hl, e0, e3, e26, S39⟩
        try simp only [↓WD, W0, evalOp, Nat.reduceEqDiff, Nat.reduceLT, ↓reduceIte, reduceCtorEq, hl, e0, e3, e26]
        refine CondK_boo (fun c43 => ?_) (fun c43 => ?_)
        · rw [if_pos c43] at wr46
          try simp only [↓WD, W0, evalOp, Nat.reduceEqDiff, Nat.reduceLT, ↓reduceIte, reduceCtorEq, hl, e0, e3, e26]
          rw [AW_region]
          refine AE_joinR (fun e h' => h40 = h' ∧ e.length = 28 ∧ e.getD 2 .undef = .int .i64 s) (by
            simp only [↓WE, WA, WL, aop, ofValue, ofCell, isConst, abin, acall1, abuiltin, aun, AV.cells, AV.one, Nat.reduceAdd, Int.reduceLT, Int.reduceLE, ↓WD, W0, evalOp, Nat.reduceEqDiff, Nat.reduceLT, ↓reduceIte, reduceCtorEq, hl, e0, e3, e26]
            exact ⟨rfl, (by simp only [List.length_set, hl]), (by simp only [W0, Nat.reduceEqDiff, Nat.reduceLT, ↓reduceIte, hl, e0, e3, e26])⟩) ?_
          rintro envg44 _ ⟨rfl, hl, e2⟩
          try simp only [↓WD, W0, evalOp, Nat.reduceEqDiff, Nat.reduceLT, ↓reduceIte, reduceCtorEq, hl, e2]
          obtain rfl := Option.some.inj wr46
          rw [KP_nil, QL_ret]
          exact ⟨_, rfl, .inr (⟨_, rfl, rfl, (by simp only [List.length_set, hl]), (by simp only [W0, Nat.reduceEqDiff, Nat.reduceLT, ↓reduceIte, hl, e2]), S39⟩)⟩
        · rw [if_neg (nf c43)] at wr46
          try simp only [↓WD, W0, evalOp, Nat.reduceEqDiff, Nat.reduceLT, ↓reduceIte, reduceCtorEq, hl, e0, e3, e26]
          rw [AW_region]
          refine AE_joinR (fun e h' => h40 = h' ∧ e.length = 28 ∧ e.getD 0 .undef = .str s_ ∧ e.getD 3 .undef = .int .i64 (IntKind.i64.wrap (s - 1))) (by
            simp only [↓WE, WA, WL, aop, ofValue, ofCell, isConst, abin, acall1, abuiltin, aun, AV.cells, AV.one, Nat.reduceAdd, Int.reduceLT, Int.reduceLE, ↓WD, W0, evalOp, Nat.reduceEqDiff, Nat.reduceLT, ↓reduceIte, reduceCtorEq, hl, e0, e3, e26]
            exact ⟨rfl, (by simp only [List.length_set, hl]), (by simp only [W0, Nat.reduceEqDiff, Nat.reduceLT, ↓reduceIte, hl, e0, e3, e26]), (by simp only [W0, Nat.reduceEqDiff, Nat.reduceLT, ↓reduceIte, hl, e0, e3, e26])⟩) ?_
          rintro envg45 _ ⟨rfl, hl, e0, e3⟩
          try simp only [↓WD, W0, evalOp, Nat.reduceEqDiff, Nat.reduceLT, ↓reduceIte, reduceCtorEq, hl, e0, e3]
          obtain rfl := Option.some.inj wr46
          rw [KP_nil, QL_normal]
          exact ⟨_, rfl, (by simp only [List.length_set, hl]), (by simp only [W0, Nat.reduceEqDiff, Nat.reduceLT, ↓reduceIte, hl, e0, e3]), (by simp only [W0, Nat.reduceEqDiff, Nat.reduceLT, ↓reduceIte, hl, e0, e3]), S39⟩
    · rw [if_neg c29] at wr46
      try simp only [↓WD, W0, evalOp, Nat.reduceEqDiff, Nat.reduceLT, ↓reduceIte, reduceCtorEq, hl, e0, e3, e8]
      obtain rfl := Option.some.inj wr46
      rw [KP_nil, QL_exit]
      exact ⟨_, rfl, .inl ⟨_, rfl, rfl, (by simp only [List.length_set, hl]), S26⟩⟩
  · exact ⟨(by simp only [List.length_set, hl]), (by simp only [W0, Nat.reduceEqDiff, Nat.reduceLT, ↓reduceIte, hl, e0, e3]), (by simp only [W0, Nat.reduceEqDiff, Nat.reduceLT, ↓reduceIte, hl, e0, e3]), S0⟩
  · intro x envr46 h48 hk
    rcases hk with ⟨t47, rfl, rfl, hl, S49⟩ | ⟨t50, rfl, rfl, hl, e2, S52⟩
    · skip
      rw [sumK_inl] at hF
      try simp only [↓WD, W0, evalOp, Nat.reduceEqDiff, Nat.reduceLT, ↓reduceIte, reduceCtorEq, hl]
      rw [AW_region]
      refine AE_joinR (fun e h' => h48 = h' ∧ e.length = 28 ∧ e.getD 2 .undef = .int .i64 (-1)) (by
        simp only [↓WE, WA, WL, aop, ofValue, ofCell, isConst, abin, acall1, abuiltin, aun, AV.cells, AV.one, Nat.reduceAdd, Int.reduceLT, Int.reduceLE, ↓WD, W0, evalOp, Nat.reduceEqDiff, Nat.reduceLT, ↓reduceIte, reduceCtorEq, hl]
        exact ⟨rfl, (by simp only [List.length_set, hl]), (by simp only [W0, Nat.reduceEqDiff, Nat.reduceLT, ↓reduceIte, hl])⟩) ?_
      rintro envg53 _ ⟨rfl, hl, e2⟩
      try simp only [↓WD, W0, evalOp, Nat.reduceEqDiff, Nat.reduceLT, ↓reduceIte, reduceCtorEq, hl, e2]
      refine KP_ret (vs := [.int .i64 (-1)]) (by simp only [aresults, aresult, gs, List.length_set, Nat.reduceEqDiff, Nat.reduceLT, ↓reduceIte, hl, e2]) ?_
      obtain rfl := Option.some.inj hF
      exact rfl
    · skip
      rw [sumK_inr] at hF
      try simp only [↓WD, W0, evalOp, Nat.reduceEqDiff, Nat.reduceLT, ↓reduceIte, reduceCtorEq, hl, e2]
      refine KP_ret (vs := [.int .i64 t50]) (by simp only [aresults, aresult, gs, List.length_set, Nat.reduceEqDiff, Nat.reduceLT, ↓reduceIte, hl, e2]) ?_
      obtain rfl := Option.some.inj hF
      exact rfl
set_option maxRecDepth 100000 in
set_option maxHeartbeats 4000000 in
theorem W_ref19_long {K : PureK} (k53 : K 53 = some kf_53) (n72 : K 72 = none) (m : Nat) (hm : NF + 1 ≤ m) (h : AH) (s_ : List UInt8) (at_ : Int) {r : Int} (hF : F_ref19_long s_ at_ = some r) :
    AR (acall Try.prog (hooksOf K) (drawnOf Try.prog (tabOf K)) m 72 [.str s_, .int .i64 at_] h) (fun v h' => v = .int .u64 r) := by
  obtain ⟨m, rfl⟩ : ∃ k, m = k + 1 := ⟨m - 1, by omega⟩
  refine AR_call (hooksOf_none n72) Try.func72 rfl _ _ fun env hl he => ?_
  have e0 := he 0
  have e1 := he 1
  simp only [List.getD_cons_zero, List.getD_cons_succ] at e0 e1
  simp only [Try.f72] at hl ⊢
  simp only [List.length_cons, List.length_nil, Nat.reduceAdd, Nat.reduceSub] at hl
  clear he
  have S0 : Sep h [] h [] := Sep.nil h
  rw [F_ref19_long] at hF
  try simp only [↓WD, W0, evalOp, Nat.reduceEqDiff, Nat.reduceLT, ↓reduceIte, reduceCtorEq, hl, e0, e1]
  rw [AW_region]
  refine AE_joinR (fun e h' => h = h' ∧ e.length = 14 ∧ e.getD 0 .undef = .str s_ ∧ e.getD 1 .undef = .int .i64 at_) (by
    simp only [↓WE, WA, WL, aop, ofValue, ofCell, isConst, abin, acall1, abuiltin, aun, AV.cells, AV.one, Nat.reduceAdd, Int.reduceLT, Int.reduceLE, ↓WD, W0, evalOp, Nat.reduceEqDiff, Nat.reduceLT, ↓reduceIte, reduceCtorEq, hl, e0, e1]
    exact ⟨rfl, (by simp only [List.length_set, hl]), (by simp only [W0, Nat.reduceEqDiff, Nat.reduceLT, ↓reduceIte, hl, e0, e1]), (by simp only [W0, Nat.reduceEqDiff, Nat.reduceLT, ↓reduceIte, hl, e0, e1])⟩) ?_
  rintro envg1 _ ⟨rfl, hl, e0, e1⟩
  try simp only [↓WD, W0, evalOp, Nat.reduceEqDiff, Nat.reduceLT, ↓reduceIte, reduceCtorEq, hl, e0, e1]
  rw [AW_region]
  obtain ⟨y2, qy2, hF⟩ := obind hF
  have og3 := fun (D : Drawn) (n : Nat) (g : AH) => call_hook (P := Try.prog) (D := D) k53 n (args := [.str s_, .int .i64 at_, .int .i64 8]) (v := .tup [.int .u64 y2.1, .int .i64 y2.2]) ((kf_53_eq s_ at_ 8).trans (by rw [qy2]; rfl)) g
  refine AE_joinR (fun e h' => h = h' ∧ e.length = 14 ∧ e.getD 5 .undef = .int .u64 y2.1) (by
    simp only [↓WE, WA, WL, aop, ofValue, ofCell, isConst, abin, acall1, abuiltin, aun, AV.cells, AV.one, Nat.reduceAdd, Int.reduceLT, Int.reduceLE, ↓WD, W0, evalOp, Nat.reduceEqDiff, Nat.reduceLT, ↓reduceIte, reduceCtorEq, hl, e0, e1, og3]
    exact ⟨rfl, (by simp only [List.length_set, hl]), (by simp only [W0, Nat.reduceEqDiff, Nat.reduceLT, ↓reduceIte, hl, e0, e1])⟩) ?_
  rintro envg4 _ ⟨rfl, hl, e5⟩
  try simp only [↓WD, W0, evalOp, Nat.reduceEqDiff, Nat.reduceLT, ↓reduceIte, reduceCtorEq, hl, e5]
  rw [AW_region]
  refine AE_joinR (fun e h' => h = h' ∧ e.length = 14 ∧ e.getD 4 .undef = .int .u64 y2.1) (by
    simp only [↓WE, WA, WL, aop, ofValue, ofCell, isConst, abin, acall1, abuiltin, aun, AV.cells, AV.one, Nat.reduceAdd, Int.reduceLT, Int.reduceLE, ↓WD, W0, evalOp, Nat.reduceEqDiff, Nat.reduceLT, ↓reduceIte, reduceCtorEq, hl, e5]
    exact ⟨rfl, (by simp only [List.length_set, hl]), (by simp only [W0, Nat.reduceEqDiff, Nat.reduceLT, ↓reduceIte, hl, e5])⟩) ?_
  rintro envg5 _ ⟨rfl, hl, e4⟩
  try simp only [↓WD, W0, evalOp, Nat.reduceEqDiff, Nat.reduceLT, ↓reduceIte, reduceCtorEq, hl, e4]
  refine KP_ret (vs := [.int .u64 y2.1]) (by simp only [aresults, aresult, gs, List.length_set, Nat.reduceEqDiff, Nat.reduceLT, ↓reduceIte, hl, e4]) ?_
  obtain rfl := Option.some.inj hF
  exact rfl
end Go.Proofs.YtikkpmmhejjpaaaM
