/- The abstract machine computes what the plain functions say: printed by lift.py. -/
import Derived.Test.YtikkpmmhejjpaaaEAW1
set_option linter.unusedSimpArgs false
set_option linter.unusedVariables false
namespace Go.Proofs.YtikkpmmhejjpaaaM
open Go Go.RowKit
set_option maxRecDepth 100000 in
set_option maxHeartbeats 4000000 in
theorem W_ref19_wide {K : PureK} (k59 : K 59 = some kf_59) (k72 : K 72 = some kf_72) (n60 : K 60 = none) (m : Nat) (hm : NF + 1 ≤ m) (h : AH) (s_ : List UInt8) (at_ : Int) {r : Gapi_End × Int} (hF : F_ref19_wide s_ at_ = some r) :
    AR (acall Try.prog (hooksOf K) (drawnOf Try.prog (tabOf K)) m 60 [.str s_, .int .i64 at_] h) (fun v h' => v = .tup [.agg [.int .i64 r.1.xAt, .int .i64 r.1.xCount, .int .i64 r.1.xSize, .int .i64 r.1.xOffset, .str r.1.xComment, .bool r.1.xWide], .int .i64 r.2]) := by
  obtain ⟨m, rfl⟩ : ∃ k, m = k + 1 := ⟨m - 1, by omega⟩
  refine AR_call (hooksOf_none n60) Try.func60 rfl _ _ fun env hl he => ?_
  have e0 := he 0
  have e1 := he 1
  simp only [List.getD_cons_zero, List.getD_cons_succ] at e0 e1
  simp only [Try.f60] at hl ⊢
  simp only [List.length_cons, List.length_nil, Nat.reduceAdd, Nat.reduceSub] at hl
  clear he
  have S0 : Sep h [] h [] := Sep.nil h
  rw [F_ref19_wide] at hF
  try simp only [↓WD, W0, evalOp, Nat.reduceEqDiff, Nat.reduceLT, ↓reduceIte, reduceCtorEq, hl, e0, e1]
  rw [AW_region]
  obtain ⟨i1, h2, oa3, S4⟩ := S0.alloc 62 [.int .i64 0, .int .i64 0, .int .i64 0, .int .i64 0, .str [], .bool false]
  have S6 : Sep h [] h2 [.blk i1 [.int .i64 0, .int .i64 0, .int .i64 0, .int .i64 0, .str [], .bool false] 62] := S4
  refine AE_joinR (fun e h' => h2 = h' ∧ e.length = 91 ∧ e.getD 0 .undef = .str s_ ∧ e.getD 1 .undef = .int .i64 at_ ∧ e.getD 4 .undef = .ptr i1 0) (by
    simp only [↓WE, WA, WL, aop, ofValue, ofCell, isConst, abin, acall1, abuiltin, aun, AV.cells, AV.one, Nat.reduceAdd, Int.reduceLT, Int.reduceLE, ↓WD, W0, evalOp, Nat.reduceEqDiff, Nat.reduceLT, ↓reduceIte, reduceCtorEq, hl, e0, e1, zero_62, oa3]
    exact ⟨rfl, (by simp only [List.length_set, hl]), (by simp only [W0, Nat.reduceEqDiff, Nat.reduceLT, ↓reduceIte, hl, e0, e1]), (by simp only [W0, Nat.reduceEqDiff, Nat.reduceLT, ↓reduceIte, hl, e0, e1]), (by simp only [W0, Nat.reduceEqDiff, Nat.reduceLT, ↓reduceIte, hl, e0, e1])⟩) ?_
  rintro envg7 _ ⟨rfl, hl, e0, e1, e4⟩
  try simp only [↓WD, W0, evalOp, Nat.reduceEqDiff, Nat.reduceLT, ↓reduceIte, reduceCtorEq, hl, e0, e1, e4]
  rw [AW_region]
  refine AE_joinR (fun e h' => h2 = h' ∧ e.length = 91 ∧ e.getD 0 .undef = .str s_ ∧ e.getD 1 .undef = .int .i64 at_ ∧ e.getD 4 .undef = .ptr i1 0 ∧ e.getD 9 .undef = .bool (decide (at_ < 76))) (by
    simp only [↓WE, WA, WL, aop, ofValue, ofCell, isConst, abin, acall1, abuiltin, aun, AV.cells, AV.one, Nat.reduceAdd, Int.reduceLT, Int.reduceLE, ↓WD, W0, evalOp, Nat.reduceEqDiff, Nat.reduceLT, ↓reduceIte, reduceCtorEq, hl, e0, e1, e4]
    exact ⟨rfl, (by simp only [List.length_set, hl]), (by simp only [W0, Nat.reduceEqDiff, Nat.reduceLT, ↓reduceIte, hl, e0, e1, e4]), (by simp only [W0, Nat.reduceEqDiff, Nat.reduceLT, ↓reduceIte, hl, e0, e1, e4]), (by simp only [W0, Nat.reduceEqDiff, Nat.reduceLT, ↓reduceIte, hl, e0, e1, e4]), (by simp only [W0, Nat.reduceEqDiff, Nat.reduceLT, ↓reduceIte, hl, e0, e1, e4])⟩) ?_
  rintro envg8 _ ⟨rfl, hl, e0, e1, e4, e9⟩
  try simp only [↓WD, W0, evalOp, Nat.reduceEqDiff, Nat.reduceLT, ↓reduceIte, reduceCtorEq, hl, e0, e1, e4, e9]
  refine CondK_dec (fun c16 => ?_) (fun c16 => ?_)
  · rw [if_pos c16] at hF
    try simp only [↓WD, W0, evalOp, Nat.reduceEqDiff, Nat.reduceLT, ↓reduceIte, reduceCtorEq, hl, e0, e1, e4, e9]
    rw [AW_region]
    obtain ⟨h17, os18, S19⟩ := S6.store (P := Try.prog) 0 rfl (t := 62) (off := 0) (v := .agg [.int .i64 0, .int .i64 0, .int .i64 0, .int .i64 0, .str [], .bool false]) (c' := [.int .i64 0, .int .i64 0, .int .i64 0, .int .i64 0, .str [], .bool false]) rfl sz_62 rfl (by simp) rfl
    have S20 : Sep h [] h17 [.blk i1 [.int .i64 0, .int .i64 0, .int .i64 0, .int .i64 0, .str [], .bool false] 62] := S19
    refine AE_joinR (fun e h' => h17 = h' ∧ e.length = 91 ∧ e.getD 4 .undef = .ptr i1 0 ∧ e.getD 5 .undef = .int .i64 2) (by
      simp only [↓WE, WA, WL, aop, ofValue, ofCell, isConst, abin, acall1, abuiltin, aun, AV.cells, AV.one, Nat.reduceAdd, Int.reduceLT, Int.reduceLE, ↓WD, W0, evalOp, Nat.reduceEqDiff, Nat.reduceLT, ↓reduceIte, reduceCtorEq, hl, e0, e1, e4, e9, bd_62_, os18]
      exact ⟨rfl, (by simp only [List.length_set, hl]), (by simp only [W0, Nat.reduceEqDiff, Nat.reduceLT, ↓reduceIte, hl, e0, e1, e4, e9]), (by simp only [W0, Nat.reduceEqDiff, Nat.reduceLT, ↓reduceIte, hl, e0, e1, e4, e9])⟩) ?_
    rintro envg21 _ ⟨rfl, hl, e4, e5⟩
    try simp only [↓WD, W0, evalOp, Nat.reduceEqDiff, Nat.reduceLT, ↓reduceIte, reduceCtorEq, hl, e4, e5]
    have ol22 := S20.load (P := Try.prog) 0 rfl (t := 62) (off := 0) (v := .agg [.int .i64 0, .int .i64 0, .int .i64 0, .int .i64 0, .str [], .bool false]) (by simp only [apart, ag_62, sz_62]; rfl)
    refine KP_ret (vs := [.agg [.int .i64 0, .int .i64 0, .int .i64 0, .int .i64 0, .str [], .bool false], .int .i64 2]) (by simp only [aresults, aresult, gs, List.length_set, Nat.reduceEqDiff, Nat.reduceLT, ↓reduceIte, hl, e4, e5, ol22]) ?_
    obtain rfl := Option.some.inj hF
    exact rfl
  · rw [if_neg c16] at hF
    try simp only [↓WD, W0, evalOp, Nat.reduceEqDiff, Nat.reduceLT, ↓reduceIte, reduceCtorEq, hl, e0, e1, e4, e9]
    rw [AW_region]
    obtain ⟨s23, qs23, hF⟩ := obind hF
    have os23 := fun g : AH => sub_str (P := Try.prog) (h := g) (k := .i64) (k' := .i64) Try.underlying9 qs23
    refine AE_joinR (fun e h' => h2 = h' ∧ e.length = 91 ∧ e.getD 0 .undef = .str s_ ∧ e.getD 1 .undef = .int .i64 at_ ∧ e.getD 4 .undef = .ptr i1 0 ∧ e.getD 6 .undef = .str s23) (by
      simp only [↓WE, WA, WL, aop, ofValue, ofCell, isConst, abin, acall1, abuiltin, aun, AV.cells, AV.one, Nat.reduceAdd, Int.reduceLT, Int.reduceLE, ↓WD, W0, evalOp, Nat.reduceEqDiff, Nat.reduceLT, ↓reduceIte, reduceCtorEq, hl, e0, e1, e4, e9, os23]
      exact ⟨rfl, (by simp only [List.length_set, hl]), (by simp only [W0, Nat.reduceEqDiff, Nat.reduceLT, ↓reduceIte, hl, e0, e1, e4, e9]), (by simp only [W0, Nat.reduceEqDiff, Nat.reduceLT, ↓reduceIte, hl, e0, e1, e4, e9]), (by simp only [W0, Nat.reduceEqDiff, Nat.reduceLT, ↓reduceIte, hl, e0, e1, e4, e9]), (by simp only [W0, Nat.reduceEqDiff, Nat.reduceLT, ↓reduceIte, hl, e0, e1, e4, e9])⟩) ?_
    rintro envg24 _ ⟨rfl, hl, e0, e1, e4, e6⟩
    try simp only [↓WD, W0, evalOp, Nat.reduceEqDiff, Nat.reduceLT, ↓reduceIte, reduceCtorEq, hl, e0, e1, e4, e6]
    rw [AW_region]
    obtain ⟨s25, qs25, hF⟩ := obind hF
    have os25 := fun g : AH => sub_str (P := Try.prog) (h := g) (k := .i64) (k' := .i64) Try.underlying9 qs25
    refine AE_joinR (fun e h' => h2 = h' ∧ e.length = 91 ∧ e.getD 1 .undef = .int .i64 at_ ∧ e.getD 4 .undef = .ptr i1 0 ∧ e.getD 6 .undef = .str s23 ∧ e.getD 7 .undef = .str s25) (by
      simp only [↓WE, WA, WL, aop, ofValue, ofCell, isConst, abin, acall1, abuiltin, aun, AV.cells, AV.one, Nat.reduceAdd, Int.reduceLT, Int.reduceLE, ↓WD, W0, evalOp, Nat.reduceEqDiff, Nat.reduceLT, ↓reduceIte, reduceCtorEq, hl, e0, e1, e4, e6, os25]
      exact ⟨rfl, (by simp only [List.length_set, hl]), (by simp only [W0, Nat.reduceEqDiff, Nat.reduceLT, ↓reduceIte, hl, e0, e1, e4, e6]), (by simp only [W0, Nat.reduceEqDiff, Nat.reduceLT, ↓reduceIte, hl, e0, e1, e4, e6]), (by simp only [W0, Nat.reduceEqDiff, Nat.reduceLT, ↓reduceIte, hl, e0, e1, e4, e6]), (by simp only [W0, Nat.reduceEqDiff, Nat.reduceLT, ↓reduceIte, hl, e0, e1, e4, e6])⟩) ?_
    rintro envg26 _ ⟨rfl, hl, e1, e4, e6, e7⟩
    try simp only [↓WD, W0, evalOp, Nat.reduceEqDiff, Nat.reduceLT, ↓reduceIte, reduceCtorEq, hl, e1, e4, e6, e7]
    rw [AW_region]
    obtain ⟨j45, qj45, hF⟩ := obind hF
    refine AE_joinR (fun e h' => e.length = 91 ∧ e.getD 1 .undef = .int .i64 at_ ∧ e.getD 4 .undef = .ptr i1 0 ∧ e.getD 7 .undef = .str s25 ∧ e.getD 42 .undef = .bool j45 ∧ Sep h [] h' [.blk i1 [.int .i64 0, .int .i64 0, .int .i64 0, .int .i64 0, .str [], .bool false] 62]) ?_ ?_
    · obtain ⟨y27, qy27, qj45⟩ := obind qj45
      have og28 := fun (D : Drawn) (n : Nat) (g : AH) => call_hook (P := Try.prog) (D := D) k59 n (args := [.str s23, .int .i64 0]) (v := .int .i64 y27) ((kf_59_eq s23 0).trans (by rw [qy27]; rfl)) g
      simp only [↓WE, WA, WL, aop, ofValue, ofCell, isConst, abin, acall1, abuiltin, aun, AV.cells, AV.one, Nat.reduceAdd, Int.reduceLT, Int.reduceLE, ↓WD, W0, evalOp, Nat.reduceEqDiff, Nat.reduceLT, ↓reduceIte, reduceCtorEq, hl, e1, e4, e6, e7, og28]
      refine GuardW_boo (fun c29 => ?_) (fun c29 => ?_)
      · rw [if_pos c29] at qj45
        have d30 := c29
        simp only [↓WE, WA, WL, aop, ofValue, ofCell, isConst, abin, acall1, abuiltin, aun, AV.cells, AV.one, Nat.reduceAdd, Int.reduceLT, Int.reduceLE, ↓WD, W0, evalOp, Nat.reduceEqDiff, Nat.reduceLT, ↓reduceIte, reduceCtorEq, hl, e1, e4, e6, e7, og28, d30]
        obtain rfl := Option.some.inj qj45
        exact ⟨(by simp only [List.length_set, hl]), (by simp only [W0, Nat.reduceEqDiff, Nat.reduceLT, ↓reduceIte, hl, e1, e4, e6, e7]), (by simp only [W0, Nat.reduceEqDiff, Nat.reduceLT, ↓reduceIte, hl, e1, e4, e6, e7]), (by simp only [W0, Nat.reduceEqDiff, Nat.reduceLT, ↓reduceIte, hl, e1, e4, e6, e7]), (by simp only [W0, Nat.reduceEqDiff, Nat.reduceLT, ↓reduceIte, hl, e1, e4, e6, e7]), S6⟩
      · rw [if_neg (nf c29)] at qj45
        have d31 := c29
        obtain ⟨y32, qy32, qj45⟩ := obind qj45
        have og33 := fun (D : Drawn) (n : Nat) (g : AH) => call_hook (P := Try.prog) (D := D) k59 n (args := [.str s23, .int .i64 4]) (v := .int .i64 y32) ((kf_59_eq s23 4).trans (by rw [qy32]; rfl)) g
        simp only [↓WE, WA, WL, aop, ofValue, ofCell, isConst, abin, acall1, abuiltin, aun, AV.cells, AV.one, Nat.reduceAdd, Int.reduceLT, Int.reduceLE, ↓WD, W0, evalOp, Nat.reduceEqDiff, Nat.reduceLT, ↓reduceIte, reduceCtorEq, hl, e1, e4, e6, e7, og28, og33, d31]
        refine GuardW_boo (fun c34 => ?_) (fun c34 => ?_)
        · rw [if_pos c34] at qj45
          have d35 := c34
          simp only [↓WE, WA, WL, aop, ofValue, ofCell, isConst, abin, acall1, abuiltin, aun, AV.cells, AV.one, Nat.reduceAdd, Int.reduceLT, Int.reduceLE, ↓WD, W0, evalOp, Nat.reduceEqDiff, Nat.reduceLT, ↓reduceIte, reduceCtorEq, hl, e1, e4, e6, e7, og28, og33, d31, d35]
          obtain rfl := Option.some.inj qj45
          exact ⟨(by simp only [List.length_set, hl]), (by simp only [W0, Nat.reduceEqDiff, Nat.reduceLT, ↓reduceIte, hl, e1, e4, e6, e7]), (by simp only [W0, Nat.reduceEqDiff, Nat.reduceLT, ↓reduceIte, hl, e1, e4, e6, e7]), (by simp only [W0, Nat.reduceEqDiff, Nat.reduceLT, ↓reduceIte, hl, e1, e4, e6, e7]), (by simp only [W0, Nat.reduceEqDiff, Nat.reduceLT, ↓reduceIte, hl, e1, e4, e6, e7]), S6⟩
        · rw [if_neg (nf c34)] at qj45
          have d36 := c34
          obtain ⟨y37, qy37, qj45⟩ := obind qj45
          have og38 := fun (D : Drawn) (n : Nat) (g : AH) => call_hook (P := Try.prog) (D := D) k72 n (args := [.str s23, .int .i64 8]) (v := .int .u64 y37) ((kf_72_eq s23 8).trans (by rw [qy37]; rfl)) g
          have oc39 := fun g : AH => aconv_int (P := Try.prog) (h := g) (n := IntKind.i64.wrap (at_ - 76)) (k' := .i64) Try.underlying3 Try.underlying25
          simp only [↓WE, WA, WL, aop, ofValue, ofCell, isConst, abin, acall1, abuiltin, aun, AV.cells, AV.one, Nat.reduceAdd, Int.reduceLT, Int.reduceLE, ↓WD, W0, evalOp, Nat.reduceEqDiff, Nat.reduceLT, ↓reduceIte, reduceCtorEq, hl, e1, e4, e6, e7, og28, og33, og38, oc39, d31, d36]
          refine GuardW_boo (fun c40 => ?_) (fun c40 => ?_)
          · rw [if_pos c40] at qj45
            have d41 := c40
            simp only [↓WE, WA, WL, aop, ofValue, ofCell, isConst, abin, acall1, abuiltin, aun, AV.cells, AV.one, Nat.reduceAdd, Int.reduceLT, Int.reduceLE, ↓WD, W0, evalOp, Nat.reduceEqDiff, Nat.reduceLT, ↓reduceIte, reduceCtorEq, hl, e1, e4, e6, e7, og28, og33, og38, oc39, d31, d36, d41]
            obtain rfl := Option.some.inj qj45
            exact ⟨(by simp only [List.length_set, hl]), (by simp only [W0, Nat.reduceEqDiff, Nat.reduceLT, ↓reduceIte, hl, e1, e4, e6, e7]), (by simp only [W0, Nat.reduceEqDiff, Nat.reduceLT, ↓reduceIte, hl, e1, e4, e6, e7]), (by simp only [W0, Nat.reduceEqDiff, Nat.reduceLT, ↓reduceIte, hl, e1, e4, e6, e7]), (by simp only [W0, Nat.reduceEqDiff, Nat.reduceLT, ↓reduceIte, hl, e1, e4, e6, e7]), S6⟩
          · rw [if_neg (nf c40)] at qj45
            have d42 := c40
            obtain ⟨y43, qy43, qj45⟩ := obind qj45
            have og44 := fun (D : Drawn) (n : Nat) (g : AH) => call_hook (P := Try.prog) (D := D) k59 n (args := [.str s23, .int .i64 16]) (v := .int .i64 y43) ((kf_59_eq s23 16).trans (by rw [qy43]; rfl)) g
            simp only [↓WE, WA, WL, aop, ofValue, ofCell, isConst, abin, acall1, abuiltin, aun, AV.cells, AV.one, Nat.reduceAdd, Int.reduceLT, Int.reduceLE, ↓WD, W0, evalOp, Nat.reduceEqDiff, Nat.reduceLT, ↓reduceIte, reduceCtorEq, hl, e1, e4, e6, e7, og28, og33, og38, oc39, og44, d31, d36, d42]
            obtain rfl := Option.some.inj qj45
            exact ⟨(by simp only [List.length_set, hl]), (by simp only [W0, Nat.reduceEqDiff, Nat.reduceLT, ↓reduceIte, hl, e1, e4, e6, e7]), (by simp only [W0, Nat.reduceEqDiff, Nat.reduceLT, ↓reduceIte, hl, e1, e4, e6, e7]), (by simp only [W0, Nat.reduceEqDiff, Nat.reduceLT, ↓reduceIte, hl, e1, e4, e6, e7]), (by simp only [W0, Nat.reduceEqDiff, Nat.reduceLT, ↓reduceIte, hl, e1, e4, e6, e7]), S6⟩
    · rintro envj45 h47 ⟨hl, e1, e4, e7, e42, S46⟩
      try simp only [↓WD, W0, evalOp, Nat.reduceEqDiff, Nat.reduceLT, ↓reduceIte, reduceCtorEq, hl, e1, e4, e7, e42]
      refine CondK_boo (fun c55 => ?_) (fun c55 => ?_)
      · rw [if_pos c55] at hF
        try simp only [↓WD, W0, evalOp, Nat.reduceEqDiff, Nat.reduceLT, ↓reduceIte, reduceCtorEq, hl, e1, e4, e7, e42]
        rw [AW_region]
        obtain ⟨h56, os57, S58⟩ := S46.store (P := Try.prog) 0 rfl (t := 62) (off := 0) (v := .agg [.int .i64 0, .int .i64 0, .int .i64 0, .int .i64 0, .str [], .bool false]) (c' := [.int .i64 0, .int .i64 0, .int .i64 0, .int .i64 0, .str [], .bool false]) rfl sz_62 rfl (by simp) rfl
        have S59 : Sep h [] h56 [.blk i1 [.int .i64 0, .int .i64 0, .int .i64 0, .int .i64 0, .str [], .bool false] 62] := S58
        refine AE_joinR (fun e h' => h56 = h' ∧ e.length = 91 ∧ e.getD 4 .undef = .ptr i1 0 ∧ e.getD 5 .undef = .int .i64 2) (by
          simp only [↓WE, WA, WL, aop, ofValue, ofCell, isConst, abin, acall1, abuiltin, aun, AV.cells, AV.one, Nat.reduceAdd, Int.reduceLT, Int.reduceLE, ↓WD, W0, evalOp, Nat.reduceEqDiff, Nat.reduceLT, ↓reduceIte, reduceCtorEq, hl, e1, e4, e7, e42, bd_62_, os57]
          exact ⟨rfl, (by simp only [List.length_set, hl]), (by simp only [W0, Nat.reduceEqDiff, Nat.reduceLT, ↓reduceIte, hl, e1, e4, e7, e42]), (by simp only [W0, Nat.reduceEqDiff, Nat.reduceLT, ↓reduceIte, hl, e1, e4, e7, e42])⟩) ?_
        rintro envg60 _ ⟨rfl, hl, e4, e5⟩
        try simp only [↓WD, W0, evalOp, Nat.reduceEqDiff, Nat.reduceLT, ↓reduceIte, reduceCtorEq, hl, e4, e5]
        have ol61 := S59.load (P := Try.prog) 0 rfl (t := 62) (off := 0) (v := .agg [.int .i64 0, .int .i64 0, .int .i64 0, .int .i64 0, .str [], .bool false]) (by simp only [apart, ag_62, sz_62]; rfl)
        refine KP_ret (vs := [.agg [.int .i64 0, .int .i64 0, .int .i64 0, .int .i64 0, .str [], .bool false], .int .i64 2]) (by simp only [aresults, aresult, gs, List.length_set, Nat.reduceEqDiff, Nat.reduceLT, ↓reduceIte, hl, e4, e5, ol61]) ?_
        obtain rfl := Option.some.inj hF
        exact rfl
      · rw [if_neg (nf c55)] at hF
        try simp only [↓WD, W0, evalOp, Nat.reduceEqDiff, Nat.reduceLT, ↓reduceIte, reduceCtorEq, hl, e1, e4, e7, e42]
        rw [AW_region]
        obtain ⟨j86, qj86, hF⟩ := obind hF
        refine AE_joinR (fun e h' => e.length = 91 ∧ e.getD 1 .undef = .int .i64 at_ ∧ e.getD 4 .undef = .ptr i1 0 ∧ e.getD 7 .undef = .str s25 ∧ e.getD 68 .undef = .bool j86 ∧ Sep h [] h' [.blk i1 [.int .i64 0, .int .i64 0, .int .i64 0, .int .i64 0, .str [], .bool false] 62]) ?_ ?_
        · obtain ⟨y62, qy62, qj86⟩ := obind qj86
          have og63 := fun (D : Drawn) (n : Nat) (g : AH) => call_hook (P := Try.prog) (D := D) k59 n (args := [.str s25, .int .i64 0]) (v := .int .i64 y62) ((kf_59_eq s25 0).trans (by rw [qy62]; rfl)) g
          simp only [↓WE, WA, WL, aop, ofValue, ofCell, isConst, abin, acall1, abuiltin, aun, AV.cells, AV.one, Nat.reduceAdd, Int.reduceLT, Int.reduceLE, ↓WD, W0, evalOp, Nat.reduceEqDiff, Nat.reduceLT, ↓reduceIte, reduceCtorEq, hl, e1, e4, e7, e42, og63]
          refine GuardW_boo (fun c64 => ?_) (fun c64 => ?_)
          · rw [if_pos c64] at qj86
            have d65 := c64
            simp only [↓WE, WA, WL, aop, ofValue, ofCell, isConst, abin, acall1, abuiltin, aun, AV.cells, AV.one, Nat.reduceAdd, Int.reduceLT, Int.reduceLE, ↓WD, W0, evalOp, Nat.reduceEqDiff, Nat.reduceLT, ↓reduceIte, reduceCtorEq, hl, e1, e4, e7, e42, og63, d65]
            obtain rfl := Option.some.inj qj86
            exact ⟨(by simp only [List.length_set, hl]), (by simp only [W0, Nat.reduceEqDiff, Nat.reduceLT, ↓reduceIte, hl, e1, e4, e7, e42]), (by simp only [W0, Nat.reduceEqDiff, Nat.reduceLT, ↓reduceIte, hl, e1, e4, e7, e42]), (by simp only [W0, Nat.reduceEqDiff, Nat.reduceLT, ↓reduceIte, hl, e1, e4, e7, e42]), (by simp only [W0, Nat.reduceEqDiff, Nat.reduceLT, ↓reduceIte, hl, e1, e4, e7, e42]), S46⟩
          · rw [if_neg (nf c64)] at qj86
            have d66 := c64
            obtain ⟨y67, qy67, qj86⟩ := obind qj86
            have og68 := fun (D : Drawn) (n : Nat) (g : AH) => call_hook (P := Try.prog) (D := D) k72 n (args := [.str s25, .int .i64 4]) (v := .int .u64 y67) ((kf_72_eq s25 4).trans (by rw [qy67]; rfl)) g
            simp only [↓WE, WA, WL, aop, ofValue, ofCell, isConst, abin, acall1, abuiltin, aun, AV.cells, AV.one, Nat.reduceAdd, Int.reduceLT, Int.reduceLE, ↓WD, W0, evalOp, Nat.reduceEqDiff, Nat.reduceLT, ↓reduceIte, reduceCtorEq, hl, e1, e4, e7, e42, og63, og68, d66]
            refine GuardW_boo (fun c69 => ?_) (fun c69 => ?_)
            · rw [if_pos c69] at qj86
              have d70 := c69
              simp only [↓WE, WA, WL, aop, ofValue, ofCell, isConst, abin, acall1, abuiltin, aun, AV.cells, AV.one, Nat.reduceAdd, Int.reduceLT, Int.reduceLE, ↓WD, W0, evalOp, Nat.reduceEqDiff, Nat.reduceLT, ↓reduceIte, reduceCtorEq, hl, e1, e4, e7, e42, og63, og68, d66, d70]
              obtain rfl := Option.some.inj qj86
              exact ⟨(by simp only [List.length_set, hl]), (by simp only [W0, Nat.reduceEqDiff, Nat.reduceLT, ↓reduceIte, hl, e1, e4, e7, e42]), (by simp only [W0, Nat.reduceEqDiff, Nat.reduceLT, ↓reduceIte, hl, e1, e4, e7, e42]), (by simp only [W0, Nat.reduceEqDiff, Nat.reduceLT, ↓reduceIte, hl, e1, e4, e7, e42]), (by simp only [W0, Nat.reduceEqDiff, Nat.reduceLT, ↓reduceIte, hl, e1, e4, e7, e42]), S46⟩
            · rw [if_neg (nf c69)] at qj86
              have d71 := c69
              obtain ⟨y72, qy72, qj86⟩ := obind qj86
              have og73 := fun (D : Drawn) (n : Nat) (g : AH) => call_hook (P := Try.prog) (D := D) k59 n (args := [.str s25, .int .i64 16]) (v := .int .i64 y72) ((kf_59_eq s25 16).trans (by rw [qy72]; rfl)) g
              simp only [↓WE, WA, WL, aop, ofValue, ofCell, isConst, abin, acall1, abuiltin, aun, AV.cells, AV.one, Nat.reduceAdd, Int.reduceLT, Int.reduceLE, ↓WD, W0, evalOp, Nat.reduceEqDiff, Nat.reduceLT, ↓reduceIte, reduceCtorEq, hl, e1, e4, e7, e42, og63, og68, og73, d66, d71]
              refine GuardW_boo (fun c74 => ?_) (fun c74 => ?_)
              · rw [if_pos c74] at qj86
                have d75 := c74
                simp only [↓WE, WA, WL, aop, ofValue, ofCell, isConst, abin, acall1, abuiltin, aun, AV.cells, AV.one, Nat.reduceAdd, Int.reduceLT, Int.reduceLE, ↓WD, W0, evalOp, Nat.reduceEqDiff, Nat.reduceLT, ↓reduceIte, reduceCtorEq, hl, e1, e4, e7, e42, og63, og68, og73, d66, d71, d75]
                obtain rfl := Option.some.inj qj86
                exact ⟨(by simp only [List.length_set, hl]), (by simp only [W0, Nat.reduceEqDiff, Nat.reduceLT, ↓reduceIte, hl, e1, e4, e7, e42]), (by simp only [W0, Nat.reduceEqDiff, Nat.reduceLT, ↓reduceIte, hl, e1, e4, e7, e42]), (by simp only [W0, Nat.reduceEqDiff, Nat.reduceLT, ↓reduceIte, hl, e1, e4, e7, e42]), (by simp only [W0, Nat.reduceEqDiff, Nat.reduceLT, ↓reduceIte, hl, e1, e4, e7, e42]), S46⟩
              · rw [if_neg (nf c74)] at qj86
                have d76 := c74
                obtain ⟨y77, qy77, qj86⟩ := obind qj86
                have og78 := fun (D : Drawn) (n : Nat) (g : AH) => call_hook (P := Try.prog) (D := D) k59 n (args := [.str s25, .int .i64 20]) (v := .int .i64 y77) ((kf_59_eq s25 20).trans (by rw [qy77]; rfl)) g
                simp only [↓WE, WA, WL, aop, ofValue, ofCell, isConst, abin, acall1, abuiltin, aun, AV.cells, AV.one, Nat.reduceAdd, Int.reduceLT, Int.reduceLE, ↓WD, W0, evalOp, Nat.reduceEqDiff, Nat.reduceLT, ↓reduceIte, reduceCtorEq, hl, e1, e4, e7, e42, og63, og68, og73, og78, d66, d71, d76]
                refine GuardW_boo (fun c79 => ?_) (fun c79 => ?_)
                · rw [if_pos c79] at qj86
                  have d80 := c79
                  simp only [↓WE, WA, WL, aop, ofValue, ofCell, isConst, abin, acall1, abuiltin, aun, AV.cells, AV.one, Nat.reduceAdd, Int.reduceLT, Int.reduceLE, ↓WD, W0, evalOp, Nat.reduceEqDiff, Nat.reduceLT, ↓reduceIte, reduceCtorEq, hl, e1, e4, e7, e42, og63, og68, og73, og78, d66, d71, d76, d80]
                  obtain rfl := Option.some.inj qj86
                  exact ⟨(by simp only [List.length_set, hl]), (by simp only [W0, Nat.reduceEqDiff, Nat.reduceLT, ↓reduceIte, hl, e1, e4, e7, e42]), (by simp only [W0, Nat.reduceEqDiff, Nat.reduceLT, ↓reduceIte, hl, e1, e4, e7, e42]), (by simp only [W0, Nat.reduceEqDiff, Nat.reduceLT, ↓reduceIte, hl, e1, e4, e7, e42]), (by simp only [W0, Nat.reduceEqDiff, Nat.reduceLT, ↓reduceIte, hl, e1, e4, e7, e42]), S46⟩
                · rw [if_neg (nf c79)] at qj86
                  have d81 := c79
                  obtain ⟨y82, qy82, qj86⟩ := obind qj86
                  have og83 := fun (D : Drawn) (n : Nat) (g : AH) => call_hook (P := Try.prog) (D := D) k72 n (args := [.str s25, .int .i64 24]) (v := .int .u64 y82) ((kf_72_eq s25 24).trans (by rw [qy82]; rfl)) g
                  obtain ⟨y84, qy84, qj86⟩ := obind qj86
                  have og85 := fun (D : Drawn) (n : Nat) (g : AH) => call_hook (P := Try.prog) (D := D) k72 n (args := [.str s25, .int .i64 32]) (v := .int .u64 y84) ((kf_72_eq s25 32).trans (by rw [qy84]; rfl)) g
                  simp only [↓WE, WA, WL, aop, ofValue, ofCell, isConst, abin, acall1, abuiltin, aun, AV.cells, AV.one, Nat.reduceAdd, Int.reduceLT, Int.reduceLE, ↓WD, W0, evalOp, Nat.reduceEqDiff, Nat.reduceLT, ↓reduceIte, reduceCtorEq, hl, e1, e4, e7, e42, og63, og68, og73, og78, og83, og85, d66, d71, d76, d81]
                  obtain rfl := Option.some.inj qj86
                  exact ⟨(by simp only [List.length_set, hl]), (by simp only [W0, Nat.reduceEqDiff, Nat.reduceLT, ↓reduceIte, hl, e1, e4, e7, e42]), (by simp only [W0, Nat.reduceEqDiff, Nat.reduceLT, ↓reduceIte, hl, e1, e4, e7, e42]), (by simp only [W0, Nat.reduceEqDiff, Nat.reduceLT, ↓reduceIte, hl, e1, e4, e7, e42]), (by simp only [W0, Nat.reduceEqDiff, Nat.reduceLT, ↓reduceIte, hl, e1, e4, e7, e42]), S46⟩
        · rintro envj86 h88 ⟨hl, e1, e4, e7, e68, S87⟩
          try simp only [↓WD, W0, evalOp, Nat.reduceEqDiff, Nat.reduceLT, ↓reduceIte, reduceCtorEq, hl, e1, e4, e7, e68]
          refine CondK_boo (fun c96 => ?_) (fun c96 => ?_)
          · rw [if_pos c96] at hF
            try simp only [↓WD, W0, evalOp, Nat.reduceEqDiff, Nat.reduceLT, ↓reduceIte, reduceCtorEq, hl, e1, e4, e7, e68]
            rw [AW_region]
            obtain ⟨h97, os98, S99⟩ := S87.store (P := Try.prog) 0 rfl (t := 62) (off := 0) (v := .agg [.int .i64 0, .int .i64 0, .int .i64 0, .int .i64 0, .str [], .bool false]) (c' := [.int .i64 0, .int .i64 0, .int .i64 0, .int .i64 0, .str [], .bool false]) rfl sz_62 rfl (by simp) rfl
            have S100 : Sep h [] h97 [.blk i1 [.int .i64 0, .int .i64 0, .int .i64 0, .int .i64 0, .str [], .bool false] 62] := S99
            refine AE_joinR (fun e h' => h97 = h' ∧ e.length = 91 ∧ e.getD 4 .undef = .ptr i1 0 ∧ e.getD 5 .undef = .int .i64 2) (by
              simp only [↓WE, WA, WL, aop, ofValue, ofCell, isConst, abin, acall1, abuiltin, aun, AV.cells, AV.one, Nat.reduceAdd, Int.reduceLT, Int.reduceLE, ↓WD, W0, evalOp, Nat.reduceEqDiff, Nat.reduceLT, ↓reduceIte, reduceCtorEq, hl, e1, e4, e7, e68, bd_62_, os98]
              exact ⟨rfl, (by simp only [List.length_set, hl]), (by simp only [W0, Nat.reduceEqDiff, Nat.reduceLT, ↓reduceIte, hl, e1, e4, e7, e68]), (by simp only [W0, Nat.reduceEqDiff, Nat.reduceLT, ↓reduceIte, hl, e1, e4, e7, e68])⟩) ?_
            rintro envg101 _ ⟨rfl, hl, e4, e5⟩
            try simp only [↓WD, W0, evalOp, Nat.reduceEqDiff, Nat.reduceLT, ↓reduceIte, reduceCtorEq, hl, e4, e5]
            have ol102 := S100.load (P := Try.prog) 0 rfl (t := 62) (off := 0) (v := .agg [.int .i64 0, .int .i64 0, .int .i64 0, .int .i64 0, .str [], .bool false]) (by simp only [apart, ag_62, sz_62]; rfl)
            refine KP_ret (vs := [.agg [.int .i64 0, .int .i64 0, .int .i64 0, .int .i64 0, .str [], .bool false], .int .i64 2]) (by simp only [aresults, aresult, gs, List.length_set, Nat.reduceEqDiff, Nat.reduceLT, ↓reduceIte, hl, e4, e5, ol102]) ?_
            obtain rfl := Option.some.inj hF
            exact rfl
          · rw [if_neg (nf c96)] at hF
            try simp only [↓WD, W0, evalOp, Nat.reduceEqDiff, Nat.reduceLT, ↓reduceIte, reduceCtorEq, hl, e1, e4, e7, e68]
            rw [AW_region]
            obtain ⟨y103, qy103, hF⟩ := obind hF
            have og104 := fun (D : Drawn) (n : Nat) (g : AH) => call_hook (P := Try.prog) (D := D) k72 n (args := [.str s25, .int .i64 24]) (v := .int .u64 y103) ((kf_72_eq s25 24).trans (by rw [qy103]; rfl)) g
            obtain ⟨y105, qy105, hF⟩ := obind hF
            have og106 := fun (D : Drawn) (n : Nat) (g : AH) => call_hook (P := Try.prog) (D := D) k72 n (args := [.str s25, .int .i64 40]) (v := .int .u64 y105) ((kf_72_eq s25 40).trans (by rw [qy105]; rfl)) g
            obtain ⟨y107, qy107, hF⟩ := obind hF
            have og108 := fun (D : Drawn) (n : Nat) (g : AH) => call_hook (P := Try.prog) (D := D) k72 n (args := [.str s25, .int .i64 48]) (v := .int .u64 y107) ((kf_72_eq s25 48).trans (by rw [qy107]; rfl)) g
            refine AE_joinR (fun e h' => h88 = h' ∧ e.length = 91 ∧ e.getD 1 .undef = .int .i64 at_ ∧ e.getD 4 .undef = .ptr i1 0 ∧ e.getD 7 .undef = .str s25 ∧ e.getD 77 .undef = .bool (decide ((maxI (maxI y103 y105) y107) > 1099511627776))) (by
              simp only [↓WE, WA, WL, aop, ofValue, ofCell, isConst, abin, acall1, abuiltin, aun, AV.cells, AV.one, Nat.reduceAdd, Int.reduceLT, Int.reduceLE, ↓WD, W0, evalOp, Nat.reduceEqDiff, Nat.reduceLT, ↓reduceIte, reduceCtorEq, hl, e1, e4, e7, e68, og104, og106, og108]
              exact ⟨rfl, (by simp only [List.length_set, hl]), (by simp only [W0, Nat.reduceEqDiff, Nat.reduceLT, ↓reduceIte, hl, e1, e4, e7, e68]), (by simp only [W0, Nat.reduceEqDiff, Nat.reduceLT, ↓reduceIte, hl, e1, e4, e7, e68]), (by simp only [W0, Nat.reduceEqDiff, Nat.reduceLT, ↓reduceIte, hl, e1, e4, e7, e68]), (by simp only [W0, Nat.reduceEqDiff, Nat.reduceLT, ↓reduceIte, hl, e1, e4, e7, e68])⟩) ?_
            rintro envg109 _ ⟨rfl, hl, e1, e4, e7, e77⟩
            try simp only [↓WD, W0, evalOp, Nat.reduceEqDiff, Nat.reduceLT, ↓reduceIte, reduceCtorEq, hl, e1, e4, e7, e77]
            refine CondK_dec (fun c117 => ?_) (fun c117 => ?_)
            · rw [if_pos c117] at hF
              try simp only [↓WD, W0, evalOp, Nat.reduceEqDiff, Nat.reduceLT, ↓reduceIte, reduceCtorEq, hl, e1, e4, e7, e77]
              rw [AW_region]
              obtain ⟨h118, os119, S120⟩ := S87.store (P := Try.prog) 0 rfl (t := 62) (off := 0) (v := .agg [.int .i64 0, .int .i64 0, .int .i64 0, .int .i64 0, .str [], .bool false]) (c' := [.int .i64 0, .int .i64 0, .int .i64 0, .int .i64 0, .str [], .bool false]) rfl sz_62 rfl (by simp) rfl
              have S121 : Sep h [] h118 [.blk i1 [.int .i64 0, .int .i64 0, .int .i64 0, .int .i64 0, .str [], .bool false] 62] := S120
              refine AE_joinR (fun e h' => h118 = h' ∧ e.length = 91 ∧ e.getD 4 .undef = .ptr i1 0 ∧ e.getD 5 .undef = .int .i64 7) (by
                simp only [↓WE, WA, WL, aop, ofValue, ofCell, isConst, abin, acall1, abuiltin, aun, AV.cells, AV.one, Nat.reduceAdd, Int.reduceLT, Int.reduceLE, ↓WD, W0, evalOp, Nat.reduceEqDiff, Nat.reduceLT, ↓reduceIte, reduceCtorEq, hl, e1, e4, e7, e77, bd_62_, os119]
                exact ⟨rfl, (by simp only [List.length_set, hl]), (by simp only [W0, Nat.reduceEqDiff, Nat.reduceLT, ↓reduceIte, hl, e1, e4, e7, e77]), (by simp only [W0, Nat.reduceEqDiff, Nat.reduceLT, ↓reduceIte, hl, e1, e4, e7, e77])⟩) ?_
              rintro envg122 _ ⟨rfl, hl, e4, e5⟩
              try simp only [↓WD, W0, evalOp, Nat.reduceEqDiff, Nat.reduceLT, ↓reduceIte, reduceCtorEq, hl, e4, e5]
              have ol123 := S121.load (P := Try.prog) 0 rfl (t := 62) (off := 0) (v := .agg [.int .i64 0, .int .i64 0, .int .i64 0, .int .i64 0, .str [], .bool false]) (by simp only [apart, ag_62, sz_62]; rfl)
              refine KP_ret (vs := [.agg [.int .i64 0, .int .i64 0, .int .i64 0, .int .i64 0, .str [], .bool false], .int .i64 7]) (by simp only [aresults, aresult, gs, List.length_set, Nat.reduceEqDiff, Nat.reduceLT, ↓reduceIte, hl, e4, e5, ol123]) ?_
              obtain rfl := Option.some.inj hF
              exact rfl
            · rw [if_neg c117] at hF
              try simp only [↓WD, W0, evalOp, Nat.reduceEqDiff, Nat.reduceLT, ↓reduceIte, reduceCtorEq, hl, e1, e4, e7, e77]
              rw [AW_region]
              have og125 := fun (D : Drawn) (n : Nat) (g : AH) => call_hook (P := Try.prog) (D := D) k72 n (args := [.str s25, .int .i64 24]) (v := .int .u64 y103) ((kf_72_eq s25 24).trans (by rw [qy103]; rfl)) g
              have oc126 := fun g : AH => aconv_int (P := Try.prog) (h := g) (n := y103) (k' := .u64) Try.underlying25 Try.underlying3
              have og128 := fun (D : Drawn) (n : Nat) (g : AH) => call_hook (P := Try.prog) (D := D) k72 n (args := [.str s25, .int .i64 40]) (v := .int .u64 y105) ((kf_72_eq s25 40).trans (by rw [qy105]; rfl)) g
              have oc129 := fun g : AH => aconv_int (P := Try.prog) (h := g) (n := y105) (k' := .u64) Try.underlying25 Try.underlying3
              have og131 := fun (D : Drawn) (n : Nat) (g : AH) => call_hook (P := Try.prog) (D := D) k72 n (args := [.str s25, .int .i64 48]) (v := .int .u64 y107) ((kf_72_eq s25 48).trans (by rw [qy107]; rfl)) g
              have oc132 := fun g : AH => aconv_int (P := Try.prog) (h := g) (n := y107) (k' := .u64) Try.underlying25 Try.underlying3
              obtain ⟨h133, os134, S135⟩ := S87.store (P := Try.prog) 0 rfl (t := 62) (off := 0) (v := .agg [.int .i64 (IntKind.i64.wrap (at_ - 76)), .int .i64 (IntKind.i64.wrap y103), .int .i64 (IntKind.i64.wrap y105), .int .i64 (IntKind.i64.wrap y107), .str [], .bool true]) (c' := [.int .i64 (IntKind.i64.wrap (at_ - 76)), .int .i64 (IntKind.i64.wrap y103), .int .i64 (IntKind.i64.wrap y105), .int .i64 (IntKind.i64.wrap y107), .str [], .bool true]) rfl sz_62 rfl (by simp) rfl
              have S136 : Sep h [] h133 [.blk i1 [.int .i64 (IntKind.i64.wrap (at_ - 76)), .int .i64 (IntKind.i64.wrap y103), .int .i64 (IntKind.i64.wrap y105), .int .i64 (IntKind.i64.wrap y107), .str [], .bool true] 62] := S135
              refine AE_joinR (fun e h' => h133 = h' ∧ e.length = 91 ∧ e.getD 4 .undef = .ptr i1 0 ∧ e.getD 5 .undef = .int .i64 0) (by
                simp only [↓WE, WA, WL, aop, ofValue, ofCell, isConst, abin, acall1, abuiltin, aun, AV.cells, AV.one, Nat.reduceAdd, Int.reduceLT, Int.reduceLE, ↓WD, W0, evalOp, Nat.reduceEqDiff, Nat.reduceLT, ↓reduceIte, reduceCtorEq, hl, e1, e4, e7, e77, og125, oc126, og128, oc129, og131, oc132, bd_62_0_1_2_3_5, os134]
                exact ⟨rfl, (by simp only [List.length_set, hl]), (by simp only [W0, Nat.reduceEqDiff, Nat.reduceLT, ↓reduceIte, hl, e1, e4, e7, e77]), (by simp only [W0, Nat.reduceEqDiff, Nat.reduceLT, ↓reduceIte, hl, e1, e4, e7, e77])⟩) ?_
              rintro envg137 _ ⟨rfl, hl, e4, e5⟩
              try simp only [↓WD, W0, evalOp, Nat.reduceEqDiff, Nat.reduceLT, ↓reduceIte, reduceCtorEq, hl, e4, e5]
              have ol138 := S136.load (P := Try.prog) 0 rfl (t := 62) (off := 0) (v := .agg [.int .i64 (IntKind.i64.wrap (at_ - 76)), .int .i64 (IntKind.i64.wrap y103), .int .i64 (IntKind.i64.wrap y105), .int .i64 (IntKind.i64.wrap y107), .str [], .bool true]) (by simp only [apart, ag_62, sz_62]; rfl)
              refine KP_ret (vs := [.agg [.int .i64 (IntKind.i64.wrap (at_ - 76)), .int .i64 (IntKind.i64.wrap y103), .int .i64 (IntKind.i64.wrap y105), .int .i64 (IntKind.i64.wrap y107), .str [], .bool true], .int .i64 0]) (by simp only [aresults, aresult, gs, List.length_set, Nat.reduceEqDiff, Nat.reduceLT, ↓reduceIte, hl, e4, e5, ol138]) ?_
              obtain rfl := Option.some.inj hF
              exact rfl
set_option maxRecDepth 100000 in
set_option maxHeartbeats 4000000 in
theorem W_ref19_Find {K : PureK} (k48 : K 48 = some kf_48) (k58 : K 58 = some kf_58) (k59 : K 59 = some kf_59) (k60 : K 60 = some kf_60) (n34 : K 34 = none) (m : Nat) (hm : NF + 1 ≤ m) (h : AH) (s_ : List UInt8) {r : Gapi_End × Int} (hF : F_ref19_Find s_ = some r) :
    AR (acall Try.prog (hooksOf K) (drawnOf Try.prog (tabOf K)) m 34 [.str s_] h) (fun v h' => v = .tup [.agg [.int .i64 r.1.xAt, .int .i64 r.1.xCount, .int .i64 r.1.xSize, .int .i64 r.1.xOffset, .str r.1.xComment, .bool r.1.xWide], .int .i64 r.2]) := by
  obtain ⟨m, rfl⟩ : ∃ k, m = k + 1 := ⟨m - 1, by omega⟩
  refine AR_call (hooksOf_none n34) Try.func34 rfl _ _ fun env hl he => ?_
  have e0 := he 0
  simp only [List.getD_cons_zero, List.getD_cons_succ] at e0
  simp only [Try.f34] at hl ⊢
  simp only [List.length_cons, List.length_nil, Nat.reduceAdd, Nat.reduceSub] at hl
  clear he
  have S0 : Sep h [] h [] := Sep.nil h
  rw [F_ref19_Find] at hF
  try simp only [↓WD, W0, evalOp, Nat.reduceEqDiff, Nat.reduceLT, ↓reduceIte, reduceCtorEq, hl, e0]
  rw [AW_region]
  obtain ⟨i1, h2, oa3, S4⟩ := S0.alloc 62 [.int .i64 0, .int .i64 0, .int .i64 0, .int .i64 0, .str [], .bool false]
  have S6 : Sep h [] h2 [.blk i1 [.int .i64 0, .int .i64 0, .int .i64 0, .int .i64 0, .str [], .bool false] 62] := S4
  refine AE_joinR (fun e h' => h2 = h' ∧ e.length = 90 ∧ e.getD 0 .undef = .str s_ ∧ e.getD 2 .undef = .ptr i1 0) (by
    simp only [↓WE, WA, WL, aop, ofValue, ofCell, isConst, abin, acall1, abuiltin, aun, AV.cells, AV.one, Nat.reduceAdd, Int.reduceLT, Int.reduceLE, ↓WD, W0, evalOp, Nat.reduceEqDiff, Nat.reduceLT, ↓reduceIte, reduceCtorEq, hl, e0, zero_62, oa3]
    exact ⟨rfl, (by simp only [List.length_set, hl]), (by simp only [W0, Nat.reduceEqDiff, Nat.reduceLT, ↓reduceIte, hl, e0]), (by simp only [W0, Nat.reduceEqDiff, Nat.reduceLT, ↓reduceIte, hl, e0])⟩) ?_
  rintro envg7 _ ⟨rfl, hl, e0, e2⟩
  try simp only [↓WD, W0, evalOp, Nat.reduceEqDiff, Nat.reduceLT, ↓reduceIte, reduceCtorEq, hl, e0, e2]
  rw [AW_region]
  obtain ⟨y8, qy8, hF⟩ := obind hF
  have og9 := fun (D : Drawn) (n : Nat) (g : AH) => call_hook (P := Try.prog) (D := D) k58 n (args := [.str s_]) (v := .int .i64 y8) ((kf_58_eq s_).trans (by rw [qy8]; rfl)) g
  refine AE_joinR (fun e h' => h2 = h' ∧ e.length = 90 ∧ e.getD 0 .undef = .str s_ ∧ e.getD 2 .undef = .ptr i1 0 ∧ e.getD 4 .undef = .int .i64 y8) (by
    simp only [↓WE, WA, WL, aop, ofValue, ofCell, isConst, abin, acall1, abuiltin, aun, AV.cells, AV.one, Nat.reduceAdd, Int.reduceLT, Int.reduceLE, ↓WD, W0, evalOp, Nat.reduceEqDiff, Nat.reduceLT, ↓reduceIte, reduceCtorEq, hl, e0, e2, og9]
    exact ⟨rfl, (by simp only [List.length_set, hl]), (by simp only [W0, Nat.reduceEqDiff, Nat.reduceLT, ↓reduceIte, hl, e0, e2]), (by simp only [W0, Nat.reduceEqDiff, Nat.reduceLT, ↓reduceIte, hl, e0, e2]), (by simp only [W0, Nat.reduceEqDiff, Nat.reduceLT, ↓reduceIte, hl, e0, e2])⟩) ?_
  rintro envg10 _ ⟨rfl, hl, e0, e2, e4⟩
  try simp only [↓WD, W0, evalOp, Nat.reduceEqDiff, Nat.reduceLT, ↓reduceIte, reduceCtorEq, hl, e0, e2, e4]
  rw [AW_region]
  refine AE_joinR (fun e h' => h2 = h' ∧ e.length = 90 ∧ e.getD 0 .undef = .str s_ ∧ e.getD 2 .undef = .ptr i1 0 ∧ e.getD 4 .undef = .int .i64 y8 ∧ e.getD 11 .undef = .bool (decide (y8 < 0))) (by
    simp only [↓WE, WA, WL, aop, ofValue, ofCell, isConst, abin, acall1, abuiltin, aun, AV.cells, AV.one, Nat.reduceAdd, Int.reduceLT, Int.reduceLE, ↓WD, W0, evalOp, Nat.reduceEqDiff, Nat.reduceLT, ↓reduceIte, reduceCtorEq, hl, e0, e2, e4]
    exact ⟨rfl, (by simp only [List.length_set, hl]), (by simp only [W0, Nat.reduceEqDiff, Nat.reduceLT, ↓reduceIte, hl, e0, e2, e4]), (by simp only [W0, Nat.reduceEqDiff, Nat.reduceLT, ↓reduceIte, hl, e0, e2, e4]), (by simp only [W0, Nat.reduceEqDiff, Nat.reduceLT, ↓reduceIte, hl, e0, e2, e4]), (by simp only [W0, Nat.reduceEqDiff, Nat.reduceLT, ↓reduceIte, hl, e0, e2, e4])⟩) ?_
  rintro envg11 _ ⟨rfl, hl, e0, e2, e4, e11⟩
  try simp only [↓WD, W0, evalOp, Nat.reduceEqDiff, Nat.reduceLT, ↓reduceIte, reduceCtorEq, hl, e0, e2, e4, e11]
  refine CondK_dec (fun c19 => ?_) (fun c19 => ?_)
  · rw [if_pos c19] at hF
    try simp only [↓WD, W0, evalOp, Nat.reduceEqDiff, Nat.reduceLT, ↓reduceIte, reduceCtorEq, hl, e0, e2, e4, e11]
    rw [AW_region]
    obtain ⟨h20, os21, S22⟩ := S6.store (P := Try.prog) 0 rfl (t := 62) (off := 0) (v := .agg [.int .i64 0, .int .i64 0, .int .i64 0, .int .i64 0, .str [], .bool false]) (c' := [.int .i64 0, .int .i64 0, .int .i64 0, .int .i64 0, .str [], .bool false]) rfl sz_62 rfl (by simp) rfl
    have S23 : Sep h [] h20 [.blk i1 [.int .i64 0, .int .i64 0, .int .i64 0, .int .i64 0, .str [], .bool false] 62] := S22
    refine AE_joinR (fun e h' => h20 = h' ∧ e.length = 90 ∧ e.getD 2 .undef = .ptr i1 0 ∧ e.getD 3 .undef = .int .i64 8) (by
      simp only [↓WE, WA, WL, aop, ofValue, ofCell, isConst, abin, acall1, abuiltin, aun, AV.cells, AV.one, Nat.reduceAdd, Int.reduceLT, Int.reduceLE, ↓WD, W0, evalOp, Nat.reduceEqDiff, Nat.reduceLT, ↓reduceIte, reduceCtorEq, hl, e0, e2, e4, e11, bd_62_, os21]
      exact ⟨rfl, (by simp only [List.length_set, hl]), (by simp only [W0, Nat.reduceEqDiff, Nat.reduceLT, ↓reduceIte, hl, e0, e2, e4, e11]), (by simp only [W0, Nat.reduceEqDiff, Nat.reduceLT, ↓reduceIte, hl, e0, e2, e4, e11])⟩) ?_
    rintro envg24 _ ⟨rfl, hl, e2, e3⟩
    try simp only [↓WD, W0, evalOp, Nat.reduceEqDiff, Nat.reduceLT, ↓reduceIte, reduceCtorEq, hl, e2, e3]
    have ol25 := S23.load (P := Try.prog) 0 rfl (t := 62) (off := 0) (v := .agg [.int .i64 0, .int .i64 0, .int .i64 0, .int .i64 0, .str [], .bool false]) (by simp only [apart, ag_62, sz_62]; rfl)
    refine KP_ret (vs := [.agg [.int .i64 0, .int .i64 0, .int .i64 0, .int .i64 0, .str [], .bool false], .int .i64 8]) (by simp only [aresults, aresult, gs, List.length_set, Nat.reduceEqDiff, Nat.reduceLT, ↓reduceIte, hl, e2, e3, ol25]) ?_
    obtain rfl := Option.some.inj hF
    exact rfl
  · rw [if_neg c19] at hF
    try simp only [↓WD, W0, evalOp, Nat.reduceEqDiff, Nat.reduceLT, ↓reduceIte, reduceCtorEq, hl, e0, e2, e4, e11]
    rw [AW_region]
    obtain ⟨j40, qj40, hF⟩ := obind hF
    refine AE_joinR (fun e h' => e.length = 90 ∧ e.getD 0 .undef = .str s_ ∧ e.getD 2 .undef = .ptr i1 0 ∧ e.getD 4 .undef = .int .i64 y8 ∧ e.getD 35 .undef = .bool j40 ∧ Sep h [] h' [.blk i1 [.int .i64 0, .int .i64 0, .int .i64 0, .int .i64 0, .str [], .bool false] 62]) ?_ ?_
    · obtain ⟨y26, qy26, qj40⟩ := obind qj40
      have og27 := fun (D : Drawn) (n : Nat) (g : AH) => call_hook (P := Try.prog) (D := D) k48 n (args := [.str s_, .int .i64 (IntKind.i64.wrap (y8 + 4))]) (v := .int .i64 y26) ((kf_48_eq s_ (IntKind.i64.wrap (y8 + 4))).trans (by rw [qy26]; rfl)) g
      simp only [↓WE, WA, WL, aop, ofValue, ofCell, isConst, abin, acall1, abuiltin, aun, AV.cells, AV.one, Nat.reduceAdd, Int.reduceLT, Int.reduceLE, ↓WD, W0, evalOp, Nat.reduceEqDiff, Nat.reduceLT, ↓reduceIte, reduceCtorEq, hl, e0, e2, e4, e11, og27]
      refine GuardW_boo (fun c28 => ?_) (fun c28 => ?_)
      · rw [if_pos c28] at qj40
        have d29 := c28
        simp only [↓WE, WA, WL, aop, ofValue, ofCell, isConst, abin, acall1, abuiltin, aun, AV.cells, AV.one, Nat.reduceAdd, Int.reduceLT, Int.reduceLE, ↓WD, W0, evalOp, Nat.reduceEqDiff, Nat.reduceLT, ↓reduceIte, reduceCtorEq, hl, e0, e2, e4, e11, og27, d29]
        obtain rfl := Option.some.inj qj40
        exact ⟨(by simp only [List.length_set, hl]), (by simp only [W0, Nat.reduceEqDiff, Nat.reduceLT, ↓reduceIte, hl, e0, e2, e4, e11]), (by simp only [W0, Nat.reduceEqDiff, Nat.reduceLT, ↓reduceIte, hl, e0, e2, e4, e11]), (by simp only [W0, Nat.reduceEqDiff, Nat.reduceLT, ↓reduceIte, hl, e0, e2, e4, e11]), (by simp only [W0, Nat.reduceEqDiff, Nat.reduceLT, ↓reduceIte, hl, e0, e2, e4, e11]), S6⟩
      · rw [if_neg (nf c28)] at qj40
        have d30 := c28
        obtain ⟨y31, qy31, qj40⟩ := obind qj40
        have og32 := fun (D : Drawn) (n : Nat) (g : AH) => call_hook (P := Try.prog) (D := D) k48 n (args := [.str s_, .int .i64 (IntKind.i64.wrap (y8 + 6))]) (v := .int .i64 y31) ((kf_48_eq s_ (IntKind.i64.wrap (y8 + 6))).trans (by rw [qy31]; rfl)) g
        simp only [↓WE, WA, WL, aop, ofValue, ofCell, isConst, abin, acall1, abuiltin, aun, AV.cells, AV.one, Nat.reduceAdd, Int.reduceLT, Int.reduceLE, ↓WD, W0, evalOp, Nat.reduceEqDiff, Nat.reduceLT, ↓reduceIte, reduceCtorEq, hl, e0, e2, e4, e11, og27, og32, d30]
        refine GuardW_boo (fun c33 => ?_) (fun c33 => ?_)
        · rw [if_pos c33] at qj40
          have d34 := c33
          simp only [↓WE, WA, WL, aop, ofValue, ofCell, isConst, abin, acall1, abuiltin, aun, AV.cells, AV.one, Nat.reduceAdd, Int.reduceLT, Int.reduceLE, ↓WD, W0, evalOp, Nat.reduceEqDiff, Nat.reduceLT, ↓reduceIte, reduceCtorEq, hl, e0, e2, e4, e11, og27, og32, d30, d34]
          obtain rfl := Option.some.inj qj40
          exact ⟨(by simp only [List.length_set, hl]), (by simp only [W0, Nat.reduceEqDiff, Nat.reduceLT, ↓reduceIte, hl, e0, e2, e4, e11]), (by simp only [W0, Nat.reduceEqDiff, Nat.reduceLT, ↓reduceIte, hl, e0, e2, e4, e11]), (by simp only [W0, Nat.reduceEqDiff, Nat.reduceLT, ↓reduceIte, hl, e0, e2, e4, e11]), (by simp only [W0, Nat.reduceEqDiff, Nat.reduceLT, ↓reduceIte, hl, e0, e2, e4, e11]), S6⟩
        · rw [if_neg (nf c33)] at qj40
          have d35 := c33
          obtain ⟨y36, qy36, qj40⟩ := obind qj40
          have og37 := fun (D : Drawn) (n : Nat) (g : AH) => call_hook (P := Try.prog) (D := D) k48 n (args := [.str s_, .int .i64 (IntKind.i64.wrap (y8 + 8))]) (v := .int .i64 y36) ((kf_48_eq s_ (IntKind.i64.wrap (y8 + 8))).trans (by rw [qy36]; rfl)) g
          obtain ⟨y38, qy38, qj40⟩ := obind qj40
          have og39 := fun (D : Drawn) (n : Nat) (g : AH) => call_hook (P := Try.prog) (D := D) k48 n (args := [.str s_, .int .i64 (IntKind.i64.wrap (y8 + 10))]) (v := .int .i64 y38) ((kf_48_eq s_ (IntKind.i64.wrap (y8 + 10))).trans (by rw [qy38]; rfl)) g
          simp only [↓WE, WA, WL, aop, ofValue, ofCell, isConst, abin, acall1, abuiltin, aun, AV.cells, AV.one, Nat.reduceAdd, Int.reduceLT, Int.reduceLE, ↓WD, W0, evalOp, Nat.reduceEqDiff, Nat.reduceLT, ↓reduceIte, reduceCtorEq, hl, e0, e2, e4, e11, og27, og32, og37, og39, d30, d35]
          obtain rfl := Option.some.inj qj40
          exact ⟨(by simp only [List.length_set, hl]), (by simp only [W0, Nat.reduceEqDiff, Nat.reduceLT, ↓reduceIte, hl, e0, e2, e4, e11]), (by simp only [W0, Nat.reduceEqDiff, Nat.reduceLT, ↓reduceIte, hl, e0, e2, e4, e11]), (by simp only [W0, Nat.reduceEqDiff, Nat.reduceLT, ↓reduceIte, hl, e0, e2, e4, e11]), (by simp only [W0, Nat.reduceEqDiff, Nat.reduceLT, ↓reduceIte, hl, e0, e2, e4, e11]), S6⟩
    · rintro envj40 h42 ⟨hl, e0, e2, e4, e35, S41⟩
      try simp only [↓WD, W0, evalOp, Nat.reduceEqDiff, Nat.reduceLT, ↓reduceIte, reduceCtorEq, hl, e0, e2, e4, e35]
      refine CondK_boo (fun c50 => ?_) (fun c50 => ?_)
      · rw [if_pos c50] at hF
        try simp only [↓WD, W0, evalOp, Nat.reduceEqDiff, Nat.reduceLT, ↓reduceIte, reduceCtorEq, hl, e0, e2, e4, e35]
        rw [AW_region]
        obtain ⟨h51, os52, S53⟩ := S41.store (P := Try.prog) 0 rfl (t := 62) (off := 0) (v := .agg [.int .i64 0, .int .i64 0, .int .i64 0, .int .i64 0, .str [], .bool false]) (c' := [.int .i64 0, .int .i64 0, .int .i64 0, .int .i64 0, .str [], .bool false]) rfl sz_62 rfl (by simp) rfl
        have S54 : Sep h [] h51 [.blk i1 [.int .i64 0, .int .i64 0, .int .i64 0, .int .i64 0, .str [], .bool false] 62] := S53
        refine AE_joinR (fun e h' => h51 = h' ∧ e.length = 90 ∧ e.getD 2 .undef = .ptr i1 0 ∧ e.getD 3 .undef = .int .i64 2) (by
          simp only [↓WE, WA, WL, aop, ofValue, ofCell, isConst, abin, acall1, abuiltin, aun, AV.cells, AV.one, Nat.reduceAdd, Int.reduceLT, Int.reduceLE, ↓WD, W0, evalOp, Nat.reduceEqDiff, Nat.reduceLT, ↓reduceIte, reduceCtorEq, hl, e0, e2, e4, e35, bd_62_, os52]
          exact ⟨rfl, (by simp only [List.length_set, hl]), (by simp only [W0, Nat.reduceEqDiff, Nat.reduceLT, ↓reduceIte, hl, e0, e2, e4, e35]), (by simp only [W0, Nat.reduceEqDiff, Nat.reduceLT, ↓reduceIte, hl, e0, e2, e4, e35])⟩) ?_
        rintro envg55 _ ⟨rfl, hl, e2, e3⟩
        try simp only [↓WD, W0, evalOp, Nat.reduceEqDiff, Nat.reduceLT, ↓reduceIte, reduceCtorEq, hl, e2, e3]
        have ol56 := S54.load (P := Try.prog) 0 rfl (t := 62) (off := 0) (v := .agg [.int .i64 0, .int .i64 0, .int .i64 0, .int .i64 0, .str [], .bool false]) (by simp only [apart, ag_62, sz_62]; rfl)
        refine KP_ret (vs := [.agg [.int .i64 0, .int .i64 0, .int .i64 0, .int .i64 0, .str [], .bool false], .int .i64 2]) (by simp only [aresults, aresult, gs, List.length_set, Nat.reduceEqDiff, Nat.reduceLT, ↓reduceIte, hl, e2, e3, ol56]) ?_
        obtain rfl := Option.some.inj hF
        exact rfl
      · rw [if_neg (nf c50)] at hF
        try simp only [↓WD, W0, evalOp, Nat.reduceEqDiff, Nat.reduceLT, ↓reduceIte, reduceCtorEq, hl, e0, e2, e4, e35]
        rw [AW_region]
        obtain ⟨y57, qy57, hF⟩ := obind hF
        have og58 := fun (D : Drawn) (n : Nat) (g : AH) => call_hook (P := Try.prog) (D := D) k48 n (args := [.str s_, .int .i64 (IntKind.i64.wrap (y8 + 8))]) (v := .int .i64 y57) ((kf_48_eq s_ (IntKind.i64.wrap (y8 + 8))).trans (by rw [qy57]; rfl)) g
        obtain ⟨y59, qy59, hF⟩ := obind hF
        have og60 := fun (D : Drawn) (n : Nat) (g : AH) => call_hook (P := Try.prog) (D := D) k59 n (args := [.str s_, .int .i64 (IntKind.i64.wrap (y8 + 12))]) (v := .int .i64 y59) ((kf_59_eq s_ (IntKind.i64.wrap (y8 + 12))).trans (by rw [qy59]; rfl)) g
        obtain ⟨y61, qy61, hF⟩ := obind hF
        have og62 := fun (D : Drawn) (n : Nat) (g : AH) => call_hook (P := Try.prog) (D := D) k59 n (args := [.str s_, .int .i64 (IntKind.i64.wrap (y8 + 16))]) (v := .int .i64 y61) ((kf_59_eq s_ (IntKind.i64.wrap (y8 + 16))).trans (by rw [qy61]; rfl)) g
        obtain ⟨i63, h64, oa65, S66⟩ := S41.alloc 62 [.int .i64 0, .int .i64 0, .int .i64 0, .int .i64 0, .str [], .bool false]
        have S68 : Sep h [] h64 [.blk i1 [.int .i64 0, .int .i64 0, .int .i64 0, .int .i64 0, .str [], .bool false] 62, .blk i63 [.int .i64 0, .int .i64 0, .int .i64 0, .int .i64 0, .str [], .bool false] 62] := S66
        obtain ⟨h69, os70, S71⟩ := S68.store (P := Try.prog) 1 rfl (t := 62) (off := 0) (v := .agg [.int .i64 y8, .int .i64 y57, .int .i64 y59, .int .i64 y61, .str [], .bool false]) (c' := [.int .i64 y8, .int .i64 y57, .int .i64 y59, .int .i64 y61, .str [], .bool false]) rfl sz_62 rfl (by simp) rfl
        have S72 : Sep h [] h69 [.blk i1 [.int .i64 0, .int .i64 0, .int .i64 0, .int .i64 0, .str [], .bool false] 62, .blk i63 [.int .i64 y8, .int .i64 y57, .int .i64 y59, .int .i64 y61, .str [], .bool false] 62] := S71
        refine AE_joinR (fun e h' => h69 = h' ∧ e.length = 90 ∧ e.getD 0 .undef = .str s_ ∧ e.getD 2 .undef = .ptr i1 0 ∧ e.getD 4 .undef = .int .i64 y8 ∧ e.getD 5 .undef = .ptr i63 0) (by
          simp only [↓WE, WA, WL, aop, ofValue, ofCell, isConst, abin, acall1, abuiltin, aun, AV.cells, AV.one, Nat.reduceAdd, Int.reduceLT, Int.reduceLE, ↓WD, W0, evalOp, Nat.reduceEqDiff, Nat.reduceLT, ↓reduceIte, reduceCtorEq, hl, e0, e2, e4, e35, og58, og60, og62, bd_62_0_1_2_3, zero_62, oa65, os70]
          exact ⟨rfl, (by simp only [List.length_set, hl]), (by simp only [W0, Nat.reduceEqDiff, Nat.reduceLT, ↓reduceIte, hl, e0, e2, e4, e35]), (by simp only [W0, Nat.reduceEqDiff, Nat.reduceLT, ↓reduceIte, hl, e0, e2, e4, e35]), (by simp only [W0, Nat.reduceEqDiff, Nat.reduceLT, ↓reduceIte, hl, e0, e2, e4, e35]), (by simp only [W0, Nat.reduceEqDiff, Nat.reduceLT, ↓reduceIte, hl, e0, e2, e4, e35])⟩) ?_
        rintro envg73 _ ⟨rfl, hl, e0, e2, e4, e5⟩
        try simp only [↓WD, W0, evalOp, Nat.reduceEqDiff, Nat.reduceLT, ↓reduceIte, reduceCtorEq, hl, e0, e2, e4, e5]
        rw [AW_region]
        obtain ⟨j83, qj83, hF⟩ := obind hF
        refine AE_joinR (fun e h' => e.length = 90 ∧ e.getD 0 .undef = .str s_ ∧ e.getD 2 .undef = .ptr i1 0 ∧ e.getD 4 .undef = .int .i64 y8 ∧ e.getD 5 .undef = .ptr i63 0 ∧ e.getD 63 .undef = .bool j83 ∧ Sep h [] h' [.blk i1 [.int .i64 0, .int .i64 0, .int .i64 0, .int .i64 0, .str [], .bool false] 62, .blk i63 [.int .i64 y8, .int .i64 y57, .int .i64 y59, .int .i64 y61, .str [], .bool false] 62]) ?_ ?_
        · have ol74 := S72.load (P := Try.prog) 1 rfl (t := 3) (off := 1) (v := .int .i64 y57) (by simp only [apart, ag_3, sz_3]; rfl)
          simp only [↓WE, WA, WL, aop, ofValue, ofCell, isConst, abin, acall1, abuiltin, aun, AV.cells, AV.one, Nat.reduceAdd, Int.reduceLT, Int.reduceLE, ↓WD, W0, evalOp, Nat.reduceEqDiff, Nat.reduceLT, ↓reduceIte, reduceCtorEq, hl, e0, e2, e4, e5, fa_62_1, ol74]
          refine GuardW_boo (fun c75 => ?_) (fun c75 => ?_)
          · rw [if_pos c75] at qj83
            have d76 := c75
            simp only [↓WE, WA, WL, aop, ofValue, ofCell, isConst, abin, acall1, abuiltin, aun, AV.cells, AV.one, Nat.reduceAdd, Int.reduceLT, Int.reduceLE, ↓WD, W0, evalOp, Nat.reduceEqDiff, Nat.reduceLT, ↓reduceIte, reduceCtorEq, hl, e0, e2, e4, e5, fa_62_1, ol74, d76]
            obtain rfl := Option.some.inj qj83
            exact ⟨(by simp only [List.length_set, hl]), (by simp only [W0, Nat.reduceEqDiff, Nat.reduceLT, ↓reduceIte, hl, e0, e2, e4, e5]), (by simp only [W0, Nat.reduceEqDiff, Nat.reduceLT, ↓reduceIte, hl, e0, e2, e4, e5]), (by simp only [W0, Nat.reduceEqDiff, Nat.reduceLT, ↓reduceIte, hl, e0, e2, e4, e5]), (by simp only [W0, Nat.reduceEqDiff, Nat.reduceLT, ↓reduceIte, hl, e0, e2, e4, e5]), (by simp only [W0, Nat.reduceEqDiff, Nat.reduceLT, ↓reduceIte, hl, e0, e2, e4, e5]), S72⟩
          · rw [if_neg (nf c75)] at qj83
            have d77 := c75
            have ol78 := S72.load (P := Try.prog) 1 rfl (t := 3) (off := 2) (v := .int .i64 y59) (by simp only [apart, ag_3, sz_3]; rfl)
            simp only [↓WE, WA, WL, aop, ofValue, ofCell, isConst, abin, acall1, abuiltin, aun, AV.cells, AV.one, Nat.reduceAdd, Int.reduceLT, Int.reduceLE, ↓WD, W0, evalOp, Nat.reduceEqDiff, Nat.reduceLT, ↓reduceIte, reduceCtorEq, hl, e0, e2, e4, e5, fa_62_1, ol74, fa_62_2, ol78, d77]
            refine GuardW_boo (fun c79 => ?_) (fun c79 => ?_)
            · rw [if_pos c79] at qj83
              have d80 := c79
              simp only [↓WE, WA, WL, aop, ofValue, ofCell, isConst, abin, acall1, abuiltin, aun, AV.cells, AV.one, Nat.reduceAdd, Int.reduceLT, Int.reduceLE, ↓WD, W0, evalOp, Nat.reduceEqDiff, Nat.reduceLT, ↓reduceIte, reduceCtorEq, hl, e0, e2, e4, e5, fa_62_1, ol74, fa_62_2, ol78, d77, d80]
              obtain rfl := Option.some.inj qj83
              exact ⟨(by simp only [List.length_set, hl]), (by simp only [W0, Nat.reduceEqDiff, Nat.reduceLT, ↓reduceIte, hl, e0, e2, e4, e5]), (by simp only [W0, Nat.reduceEqDiff, Nat.reduceLT, ↓reduceIte, hl, e0, e2, e4, e5]), (by simp only [W0, Nat.reduceEqDiff, Nat.reduceLT, ↓reduceIte, hl, e0, e2, e4, e5]), (by simp only [W0, Nat.reduceEqDiff, Nat.reduceLT, ↓reduceIte, hl, e0, e2, e4, e5]), (by simp only [W0, Nat.reduceEqDiff, Nat.reduceLT, ↓reduceIte, hl, e0, e2, e4, e5]), S72⟩
            · rw [if_neg (nf c79)] at qj83
              have d81 := c79
              have ol82 := S72.load (P := Try.prog) 1 rfl (t := 3) (off := 3) (v := .int .i64 y61) (by simp only [apart, ag_3, sz_3]; rfl)
              simp only [↓WE, WA, WL, aop, ofValue, ofCell, isConst, abin, acall1, abuiltin, aun, AV.cells, AV.one, Nat.reduceAdd, Int.reduceLT, Int.reduceLE, ↓WD, W0, evalOp, Nat.reduceEqDiff, Nat.reduceLT, ↓reduceIte, reduceCtorEq, hl, e0, e2, e4, e5, fa_62_1, ol74, fa_62_2, ol78, fa_62_3, ol82, d77, d81]
              obtain rfl := Option.some.inj qj83
              exact ⟨(by simp only [List.length_set, hl]), (by simp only [W0, Nat.reduceEqDiff, Nat.reduceLT, ↓reduceIte, hl, e0, e2, e4, e5]), (by simp only [W0, Nat.reduceEqDiff, Nat.reduceLT, ↓reduceIte, hl, e0, e2, e4, e5]), (by simp only [W0, Nat.reduceEqDiff, Nat.reduceLT, ↓reduceIte, hl, e0, e2, e4, e5]), (by simp only [W0, Nat.reduceEqDiff, Nat.reduceLT, ↓reduceIte, hl, e0, e2, e4, e5]), (by simp only [W0, Nat.reduceEqDiff, Nat.reduceLT, ↓reduceIte, hl, e0, e2, e4, e5]), S72⟩
        · rintro envj83 h85 ⟨hl, e0, e2, e4, e5, e63, S84⟩
          try simp only [↓WD, W0, evalOp, Nat.reduceEqDiff, Nat.reduceLT, ↓reduceIte, reduceCtorEq, hl, e0, e2, e4, e5, e63]
          obtain ⟨j121, qj121, hF⟩ := obind hF
          refine CondK_join (fun e h' => ∃ (cj121 : Int × Int × Int × Int × (List UInt8) × Bool), j121 = .inl cj121 ∧ e.length = 90 ∧ e.getD 0 .undef = .str s_ ∧ e.getD 2 .undef = .ptr i1 0 ∧ e.getD 4 .undef = .int .i64 y8 ∧ e.getD 5 .undef = .ptr i63 0 ∧ Sep h [] h' [.blk i1 [.int .i64 0, .int .i64 0, .int .i64 0, .int .i64 0, .str [], .bool false] 62, .blk i63 [.int .i64 cj121.1, .int .i64 cj121.2.1, .int .i64 cj121.2.2.1, .int .i64 cj121.2.2.2.1, .str cj121.2.2.2.2.1, .bool cj121.2.2.2.2.2] 62]) ?_ ?_
          · refine CondK_boo (fun c86 => ?_) (fun c86 => ?_)
            · rw [if_pos c86] at qj121
              try simp only [↓WD, W0, evalOp, Nat.reduceEqDiff, Nat.reduceLT, ↓reduceIte, reduceCtorEq, hl, e0, e2, e4, e5, e63]
              rw [AW_region]
              obtain ⟨y87, qy87, qj121⟩ := obind qj121
              have og88 := fun (D : Drawn) (n : Nat) (g : AH) => call_hook (P := Try.prog) (D := D) k60 n (args := [.str s_, .int .i64 y8]) (v := .tup [.agg [.int .i64 y87.1.xAt, .int .i64 y87.1.xCount, .int .i64 y87.1.xSize, .int .i64 y87.1.xOffset, .str y87.1.xComment, .bool y87.1.xWide], .int .i64 y87.2]) ((kf_60_eq s_ y8).trans (by rw [qy87]; rfl)) g
              obtain ⟨i89, h90, oa91, S92⟩ := S84.alloc 62 [.int .i64 0, .int .i64 0, .int .i64 0, .int .i64 0, .str [], .bool false]
              have S94 : Sep h [] h90 [.blk i1 [.int .i64 0, .int .i64 0, .int .i64 0, .int .i64 0, .str [], .bool false] 62, .blk i63 [.int .i64 y8, .int .i64 y57, .int .i64 y59, .int .i64 y61, .str [], .bool false] 62, .blk i89 [.int .i64 0, .int .i64 0, .int .i64 0, .int .i64 0, .str [], .bool false] 62] := S92
              obtain ⟨h95, os96, S97⟩ := S94.store (P := Try.prog) 2 rfl (t := 62) (off := 0) (v := .agg [.int .i64 y87.1.xAt, .int .i64 y87.1.xCount, .int .i64 y87.1.xSize, .int .i64 y87.1.xOffset, .str y87.1.xComment, .bool y87.1.xWide]) (c' := [.int .i64 y87.1.xAt, .int .i64 y87.1.xCount, .int .i64 y87.1.xSize, .int .i64 y87.1.xOffset, .str y87.1.xComment, .bool y87.1.xWide]) rfl sz_62 rfl (by simp) rfl
              have S98 : Sep h [] h95 [.blk i1 [.int .i64 0, .int .i64 0, .int .i64 0, .int .i64 0, .str [], .bool false] 62, .blk i63 [.int .i64 y8, .int .i64 y57, .int .i64 y59, .int .i64 y61, .str [], .bool false] 62, .blk i89 [.int .i64 y87.1.xAt, .int .i64 y87.1.xCount, .int .i64 y87.1.xSize, .int .i64 y87.1.xOffset, .str y87.1.xComment, .bool y87.1.xWide] 62] := S97
              refine AE_joinR (fun e h' => h95 = h' ∧ e.length = 90 ∧ e.getD 0 .undef = .str s_ ∧ e.getD 2 .undef = .ptr i1 0 ∧ e.getD 4 .undef = .int .i64 y8 ∧ e.getD 5 .undef = .ptr i63 0 ∧ e.getD 6 .undef = .ptr i89 0 ∧ e.getD 7 .undef = .int .i64 y87.2) (by
                simp only [↓WE, WA, WL, aop, ofValue, ofCell, isConst, abin, acall1, abuiltin, aun, AV.cells, AV.one, Nat.reduceAdd, Int.reduceLT, Int.reduceLE, ↓WD, W0, evalOp, Nat.reduceEqDiff, Nat.reduceLT, ↓reduceIte, reduceCtorEq, hl, e0, e2, e4, e5, e63, og88, zero_62, oa91, os96]
                exact ⟨rfl, (by simp only [List.length_set, hl]), (by simp only [W0, Nat.reduceEqDiff, Nat.reduceLT, ↓reduceIte, hl, e0, e2, e4, e5, e63]), (by simp only [W0, Nat.reduceEqDiff, Nat.reduceLT, ↓reduceIte, hl, e0, e2, e4, e5, e63]), (by simp only [W0, Nat.reduceEqDiff, Nat.reduceLT, ↓reduceIte, hl, e0, e2, e4, e5, e63]), (by simp only [W0, Nat.reduceEqDiff, Nat.reduceLT, ↓reduceIte, hl, e0, e2, e4, e5, e63]), (by simp only [W0, Nat.reduceEqDiff, Nat.reduceLT, ↓reduceIte, hl, e0, e2, e4, e5, e63]), (by simp only [W0, Nat.reduceEqDiff, Nat.reduceLT, ↓reduceIte, hl, e0, e2, e4, e5, e63])⟩) ?_
              rintro envg99 _ ⟨rfl, hl, e0, e2, e4, e5, e6, e7⟩
              try simp only [↓WD, W0, evalOp, Nat.reduceEqDiff, Nat.reduceLT, ↓reduceIte, reduceCtorEq, hl, e0, e2, e4, e5, e6, e7]
              rw [AW_region]
              refine AE_joinR (fun e h' => h95 = h' ∧ e.length = 90 ∧ e.getD 0 .undef = .str s_ ∧ e.getD 2 .undef = .ptr i1 0 ∧ e.getD 4 .undef = .int .i64 y8 ∧ e.getD 5 .undef = .ptr i63 0 ∧ e.getD 6 .undef = .ptr i89 0 ∧ e.getD 7 .undef = .int .i64 y87.2 ∧ e.getD 71 .undef = .bool (y87.2 != 0)) (by
                simp only [↓WE, WA, WL, aop, ofValue, ofCell, isConst, abin, acall1, abuiltin, aun, AV.cells, AV.one, Nat.reduceAdd, Int.reduceLT, Int.reduceLE, ↓WD, W0, evalOp, Nat.reduceEqDiff, Nat.reduceLT, ↓reduceIte, reduceCtorEq, hl, e0, e2, e4, e5, e6, e7]
                exact ⟨rfl, (by simp only [List.length_set, hl]), (by simp only [W0, Nat.reduceEqDiff, Nat.reduceLT, ↓reduceIte, hl, e0, e2, e4, e5, e6, e7]), (by simp only [W0, Nat.reduceEqDiff, Nat.reduceLT, ↓reduceIte, hl, e0, e2, e4, e5, e6, e7]), (by simp only [W0, Nat.reduceEqDiff, Nat.reduceLT, ↓reduceIte, hl, e0, e2, e4, e5, e6, e7]), (by simp only [W0, Nat.reduceEqDiff, Nat.reduceLT, ↓reduceIte, hl, e0, e2, e4, e5, e6, e7]), (by simp only [W0, Nat.reduceEqDiff, Nat.reduceLT, ↓reduceIte, hl, e0, e2, e4, e5, e6, e7]), (by simp only [W0, Nat.reduceEqDiff, Nat.reduceLT, ↓reduceIte, hl, e0, e2, e4, e5, e6, e7]), (by simp only [W0, Nat.reduceEqDiff, Nat.reduceLT, ↓reduceIte, hl, e0, e2, e4, e5, e6, e7])⟩) ?_
              rintro envg100 _ ⟨rfl, hl, e0, e2, e4, e5, e6, e7, e71⟩
              try simp only [↓WD, W0, evalOp, Nat.reduceEqDiff, Nat.reduceLT, ↓reduceIte, reduceCtorEq, hl, e0, e2, e4, e5, e6, e7, e71]
              refine CondK_boo (fun c108 => ?_) (fun c108 => ?_)
              · rw [if_pos c108] at qj121
                try simp only [↓WD, W0, evalOp, Nat.reduceEqDiff, Nat.reduceLT, ↓reduceIte, reduceCtorEq, hl, e0, e2, e4, e5, e6, e7, e71]
                rw [AW_region]
                obtain ⟨h109, os110, S111⟩ := S98.store (P := Try.prog) 0 rfl (t := 62) (off := 0) (v := .agg [.int .i64 0, .int .i64 0, .int .i64 0, .int .i64 0, .str [], .bool false]) (c' := [.int .i64 0, .int .i64 0, .int .i64 0, .int .i64 0, .str [], .bool false]) rfl sz_62 rfl (by simp) rfl
                have S112 : Sep h [] h109 [.blk i1 [.int .i64 0, .int .i64 0, .int .i64 0, .int .i64 0, .str [], .bool false] 62, .blk i63 [.int .i64 y8, .int .i64 y57, .int .i64 y59, .int .i64 y61, .str [], .bool false] 62, .blk i89 [.int .i64 y87.1.xAt, .int .i64 y87.1.xCount, .int .i64 y87.1.xSize, .int .i64 y87.1.xOffset, .str y87.1.xComment, .bool y87.1.xWide] 62] := S111
                refine AE_joinR (fun e h' => h109 = h' ∧ e.length = 90 ∧ e.getD 2 .undef = .ptr i1 0 ∧ e.getD 3 .undef = .int .i64 y87.2) (by
                  simp only [↓WE, WA, WL, aop, ofValue, ofCell, isConst, abin, acall1, abuiltin, aun, AV.cells, AV.one, Nat.reduceAdd, Int.reduceLT, Int.reduceLE, ↓WD, W0, evalOp, Nat.reduceEqDiff, Nat.reduceLT, ↓reduceIte, reduceCtorEq, hl, e0, e2, e4, e5, e6, e7, e71, bd_62_, os110]
                  exact ⟨rfl, (by simp only [List.length_set, hl]), (by simp only [W0, Nat.reduceEqDiff, Nat.reduceLT, ↓reduceIte, hl, e0, e2, e4, e5, e6, e7, e71]), (by simp only [W0, Nat.reduceEqDiff, Nat.reduceLT, ↓reduceIte, hl, e0, e2, e4, e5, e6, e7, e71])⟩) ?_
                rintro envg113 _ ⟨rfl, hl, e2, e3⟩
                try simp only [↓WD, W0, evalOp, Nat.reduceEqDiff, Nat.reduceLT, ↓reduceIte, reduceCtorEq, hl, e2, e3]
                rw [KP_nil, KJ_ret]
                try simp only [↓WD, W0, evalOp, Nat.reduceEqDiff, Nat.reduceLT, ↓reduceIte, reduceCtorEq, hl, e2, e3]
                have ol114 := S112.load (P := Try.prog) 0 rfl (t := 62) (off := 0) (v := .agg [.int .i64 0, .int .i64 0, .int .i64 0, .int .i64 0, .str [], .bool false]) (by simp only [apart, ag_62, sz_62]; rfl)
                refine KP_ret (vs := [.agg [.int .i64 0, .int .i64 0, .int .i64 0, .int .i64 0, .str [], .bool false], .int .i64 y87.2]) (by simp only [aresults, aresult, gs, List.length_set, Nat.reduceEqDiff, Nat.reduceLT, ↓reduceIte, hl, e2, e3, ol114]) ?_
                obtain rfl := Option.some.inj qj121
                rw [sumK_inr] at hF
                obtain rfl := Option.some.inj hF
                exact rfl
              · rw [if_neg (nf c108)] at qj121
                try simp only [↓WD, W0, evalOp, Nat.reduceEqDiff, Nat.reduceLT, ↓reduceIte, reduceCtorEq, hl, e0, e2, e4, e5, e6, e7, e71]
                rw [AW_region]
                have ol115 := S98.load (P := Try.prog) 2 rfl (t := 62) (off := 0) (v := .agg [.int .i64 y87.1.xAt, .int .i64 y87.1.xCount, .int .i64 y87.1.xSize, .int .i64 y87.1.xOffset, .str y87.1.xComment, .bool y87.1.xWide]) (by simp only [apart, ag_62, sz_62]; rfl)
                obtain ⟨h116, os117, S118⟩ := S98.store (P := Try.prog) 1 rfl (t := 62) (off := 0) (v := .agg [.int .i64 y87.1.xAt, .int .i64 y87.1.xCount, .int .i64 y87.1.xSize, .int .i64 y87.1.xOffset, .str y87.1.xComment, .bool y87.1.xWide]) (c' := [.int .i64 y87.1.xAt, .int .i64 y87.1.xCount, .int .i64 y87.1.xSize, .int .i64 y87.1.xOffset, .str y87.1.xComment, .bool y87.1.xWide]) rfl sz_62 rfl (by simp) rfl
                have S119 : Sep h [] h116 [.blk i1 [.int .i64 0, .int .i64 0, .int .i64 0, .int .i64 0, .str [], .bool false] 62, .blk i63 [.int .i64 y87.1.xAt, .int .i64 y87.1.xCount, .int .i64 y87.1.xSize, .int .i64 y87.1.xOffset, .str y87.1.xComment, .bool y87.1.xWide] 62, .blk i89 [.int .i64 y87.1.xAt, .int .i64 y87.1.xCount, .int .i64 y87.1.xSize, .int .i64 y87.1.xOffset, .str y87.1.xComment, .bool y87.1.xWide] 62] := S118
                refine AE_joinR (fun e h' => h116 = h' ∧ e.length = 90 ∧ e.getD 0 .undef = .str s_ ∧ e.getD 2 .undef = .ptr i1 0 ∧ e.getD 4 .undef = .int .i64 y8 ∧ e.getD 5 .undef = .ptr i63 0) (by
                  simp only [↓WE, WA, WL, aop, ofValue, ofCell, isConst, abin, acall1, abuiltin, aun, AV.cells, AV.one, Nat.reduceAdd, Int.reduceLT, Int.reduceLE, ↓WD, W0, evalOp, Nat.reduceEqDiff, Nat.reduceLT, ↓reduceIte, reduceCtorEq, hl, e0, e2, e4, e5, e6, e7, e71, ol115, os117]
                  exact ⟨rfl, (by simp only [List.length_set, hl]), (by simp only [W0, Nat.reduceEqDiff, Nat.reduceLT, ↓reduceIte, hl, e0, e2, e4, e5, e6, e7, e71]), (by simp only [W0, Nat.reduceEqDiff, Nat.reduceLT, ↓reduceIte, hl, e0, e2, e4, e5, e6, e7, e71]), (by simp only [W0, Nat.reduceEqDiff, Nat.reduceLT, ↓reduceIte, hl, e0, e2, e4, e5, e6, e7, e71]), (by simp only [W0, Nat.reduceEqDiff, Nat.reduceLT, ↓reduceIte, hl, e0, e2, e4, e5, e6, e7, e71])⟩) ?_
                rintro envg120 _ ⟨rfl, hl, e0, e2, e4, e5⟩
                try simp only [↓WD, W0, evalOp, Nat.reduceEqDiff, Nat.reduceLT, ↓reduceIte, reduceCtorEq, hl, e0, e2, e4, e5]
                rw [KP_nil, KJ_normal]
                obtain rfl := Option.some.inj qj121
                exact ⟨_, rfl, (by simp only [List.length_set, hl]), (by simp only [W0, Nat.reduceEqDiff, Nat.reduceLT, ↓reduceIte, hl, e0, e2, e4, e5]), (by simp only [W0, Nat.reduceEqDiff, Nat.reduceLT, ↓reduceIte, hl, e0, e2, e4, e5]), (by simp only [W0, Nat.reduceEqDiff, Nat.reduceLT, ↓reduceIte, hl, e0, e2, e4, e5]), (by simp only [W0, Nat.reduceEqDiff, Nat.reduceLT, ↓reduceIte, hl, e0, e2, e4, e5]), S119.pick [0, 1] (by decide) rfl⟩
            · rw [if_neg (nf c86)] at qj121
              try simp only [↓WD, W0, evalOp, Nat.reduceEqDiff, Nat.reduceLT, ↓reduceIte, reduceCtorEq, hl, e0, e2, e4, e5, e63]
              rw [KP_nil, KJ_normal]
              obtain rfl := Option.some.inj qj121
              exact ⟨_, rfl, (by simp only [List.length_set, hl]), (by simp only [W0, Nat.reduceEqDiff, Nat.reduceLT, ↓reduceIte, hl, e0, e2, e4, e5, e63]), (by simp only [W0, Nat.reduceEqDiff, Nat.reduceLT, ↓reduceIte, hl, e0, e2, e4, e5, e63]), (by simp only [W0, Nat.reduceEqDiff, Nat.reduceLT, ↓reduceIte, hl, e0, e2, e4, e5, e63]), (by simp only [W0, Nat.reduceEqDiff, Nat.reduceLT, ↓reduceIte, hl, e0, e2, e4, e5, e63]), S84⟩
          · rintro envj121 h123 ⟨cj121, rfl, hl, e0, e2, e4, e5, S122⟩
            rw [sumK_inl] at hF
            try simp only [↓WD, W0, evalOp, Nat.reduceEqDiff, Nat.reduceLT, ↓reduceIte, reduceCtorEq, hl, e0, e2, e4, e5]
            rw [AW_region]
            have ol124 := S122.load (P := Try.prog) 1 rfl (t := 3) (off := 3) (v := .int .i64 cj121.2.2.2.1) (by simp only [apart, ag_3, sz_3]; rfl)
            have ol125 := S122.load (P := Try.prog) 1 rfl (t := 3) (off := 2) (v := .int .i64 cj121.2.2.1) (by simp only [apart, ag_3, sz_3]; rfl)
            have ol126 := S122.load (P := Try.prog) 1 rfl (t := 3) (off := 0) (v := .int .i64 cj121.1) (by simp only [apart, ag_3, sz_3]; rfl)
            refine AE_joinR (fun e h' => h123 = h' ∧ e.length = 90 ∧ e.getD 0 .undef = .str s_ ∧ e.getD 2 .undef = .ptr i1 0 ∧ e.getD 4 .undef = .int .i64 y8 ∧ e.getD 5 .undef = .ptr i63 0 ∧ e.getD 82 .undef = .bool ((IntKind.i64.wrap (cj121.2.2.2.1 + cj121.2.2.1)) != cj121.1)) (by
              simp only [↓WE, WA, WL, aop, ofValue, ofCell, isConst, abin, acall1, abuiltin, aun, AV.cells, AV.one, Nat.reduceAdd, Int.reduceLT, Int.reduceLE, ↓WD, W0, evalOp, Nat.reduceEqDiff, Nat.reduceLT, ↓reduceIte, reduceCtorEq, hl, e0, e2, e4, e5, fa_62_3, ol124, fa_62_2, ol125, fa_62_0, ol126]
              exact ⟨rfl, (by simp only [List.length_set, hl]), (by simp only [W0, Nat.reduceEqDiff, Nat.reduceLT, ↓reduceIte, hl, e0, e2, e4, e5]), (by simp only [W0, Nat.reduceEqDiff, Nat.reduceLT, ↓reduceIte, hl, e0, e2, e4, e5]), (by simp only [W0, Nat.reduceEqDiff, Nat.reduceLT, ↓reduceIte, hl, e0, e2, e4, e5]), (by simp only [W0, Nat.reduceEqDiff, Nat.reduceLT, ↓reduceIte, hl, e0, e2, e4, e5]), (by simp only [W0, Nat.reduceEqDiff, Nat.reduceLT, ↓reduceIte, hl, e0, e2, e4, e5])⟩) ?_
            rintro envg127 _ ⟨rfl, hl, e0, e2, e4, e5, e82⟩
            try simp only [↓WD, W0, evalOp, Nat.reduceEqDiff, Nat.reduceLT, ↓reduceIte, reduceCtorEq, hl, e0, e2, e4, e5, e82]
            refine CondK_boo (fun c135 => ?_) (fun c135 => ?_)
            · rw [if_pos c135] at hF
              try simp only [↓WD, W0, evalOp, Nat.reduceEqDiff, Nat.reduceLT, ↓reduceIte, reduceCtorEq, hl, e0, e2, e4, e5, e82]
              rw [AW_region]
              obtain ⟨h136, os137, S138⟩ := S122.store (P := Try.prog) 0 rfl (t := 62) (off := 0) (v := .agg [.int .i64 0, .int .i64 0, .int .i64 0, .int .i64 0, .str [], .bool false]) (c' := [.int .i64 0, .int .i64 0, .int .i64 0, .int .i64 0, .str [], .bool false]) rfl sz_62 rfl (by simp) rfl
              have S139 : Sep h [] h136 [.blk i1 [.int .i64 0, .int .i64 0, .int .i64 0, .int .i64 0, .str [], .bool false] 62, .blk i63 [.int .i64 cj121.1, .int .i64 cj121.2.1, .int .i64 cj121.2.2.1, .int .i64 cj121.2.2.2.1, .str cj121.2.2.2.2.1, .bool cj121.2.2.2.2.2] 62] := S138
              refine AE_joinR (fun e h' => h136 = h' ∧ e.length = 90 ∧ e.getD 2 .undef = .ptr i1 0 ∧ e.getD 3 .undef = .int .i64 2) (by
                simp only [↓WE, WA, WL, aop, ofValue, ofCell, isConst, abin, acall1, abuiltin, aun, AV.cells, AV.one, Nat.reduceAdd, Int.reduceLT, Int.reduceLE, ↓WD, W0, evalOp, Nat.reduceEqDiff, Nat.reduceLT, ↓reduceIte, reduceCtorEq, hl, e0, e2, e4, e5, e82, bd_62_, os137]
                exact ⟨rfl, (by simp only [List.length_set, hl]), (by simp only [W0, Nat.reduceEqDiff, Nat.reduceLT, ↓reduceIte, hl, e0, e2, e4, e5, e82]), (by simp only [W0, Nat.reduceEqDiff, Nat.reduceLT, ↓reduceIte, hl, e0, e2, e4, e5, e82])⟩) ?_
              rintro envg140 _ ⟨rfl, hl, e2, e3⟩
              try simp only [↓WD, W0, evalOp, Nat.reduceEqDiff, Nat.reduceLT, ↓reduceIte, reduceCtorEq, hl, e2, e3]
              have ol141 := S139.load (P := Try.prog) 0 rfl (t := 62) (off := 0) (v := .agg [.int .i64 0, .int .i64 0, .int .i64 0, .int .i64 0, .str [], .bool false]) (by simp only [apart, ag_62, sz_62]; rfl)
              refine KP_ret (vs := [.agg [.int .i64 0, .int .i64 0, .int .i64 0, .int .i64 0, .str [], .bool false], .int .i64 2]) (by simp only [aresults, aresult, gs, List.length_set, Nat.reduceEqDiff, Nat.reduceLT, ↓reduceIte, hl, e2, e3, ol141]) ?_
              obtain rfl := Option.some.inj hF
              exact rfl
            · rw [if_neg (nf c135)] at hF
              try simp only [↓WD, W0, evalOp, Nat.reduceEqDiff, Nat.reduceLT, ↓reduceIte, reduceCtorEq, hl, e0, e2, e4, e5, e82]
              rw [AW_region]
              obtain ⟨s142, qs142, hF⟩ := obind hF
              have os142 := fun g : AH => sub_strF (P := Try.prog) (h := g) (k := .i64) Try.underlying9 qs142
              obtain ⟨h143, os144, S145⟩ := S122.store (P := Try.prog) 1 rfl (t := 9) (off := 4) (v := .str s142) (c' := [.int .i64 cj121.1, .int .i64 cj121.2.1, .int .i64 cj121.2.2.1, .int .i64 cj121.2.2.2.1, .str s142, .bool cj121.2.2.2.2.2]) rfl sz_9 rfl (by simp) rfl
              have S146 : Sep h [] h143 [.blk i1 [.int .i64 0, .int .i64 0, .int .i64 0, .int .i64 0, .str [], .bool false] 62, .blk i63 [.int .i64 cj121.1, .int .i64 cj121.2.1, .int .i64 cj121.2.2.1, .int .i64 cj121.2.2.2.1, .str s142, .bool cj121.2.2.2.2.2] 62] := S145
              refine AE_joinR (fun e h' => h143 = h' ∧ e.length = 90 ∧ e.getD 2 .undef = .ptr i1 0 ∧ e.getD 5 .undef = .ptr i63 0) (by
                simp only [↓WE, WA, WL, aop, ofValue, ofCell, isConst, abin, acall1, abuiltin, aun, AV.cells, AV.one, Nat.reduceAdd, Int.reduceLT, Int.reduceLE, ↓WD, W0, evalOp, Nat.reduceEqDiff, Nat.reduceLT, ↓reduceIte, reduceCtorEq, hl, e0, e2, e4, e5, e82, os142, fa_62_4, os144]
                exact ⟨rfl, (by simp only [List.length_set, hl]), (by simp only [W0, Nat.reduceEqDiff, Nat.reduceLT, ↓reduceIte, hl, e0, e2, e4, e5, e82]), (by simp only [W0, Nat.reduceEqDiff, Nat.reduceLT, ↓reduceIte, hl, e0, e2, e4, e5, e82])⟩) ?_
              rintro envg147 _ ⟨rfl, hl, e2, e5⟩
              try simp only [↓WD, W0, evalOp, Nat.reduceEqDiff, Nat.reduceLT, ↓reduceIte, reduceCtorEq, hl, e2, e5]
              rw [AW_region]
              have ol148 := S146.load (P := Try.prog) 1 rfl (t := 62) (off := 0) (v := .agg [.int .i64 cj121.1, .int .i64 cj121.2.1, .int .i64 cj121.2.2.1, .int .i64 cj121.2.2.2.1, .str s142, .bool cj121.2.2.2.2.2]) (by simp only [apart, ag_62, sz_62]; rfl)
              obtain ⟨h149, os150, S151⟩ := S146.store (P := Try.prog) 0 rfl (t := 62) (off := 0) (v := .agg [.int .i64 cj121.1, .int .i64 cj121.2.1, .int .i64 cj121.2.2.1, .int .i64 cj121.2.2.2.1, .str s142, .bool cj121.2.2.2.2.2]) (c' := [.int .i64 cj121.1, .int .i64 cj121.2.1, .int .i64 cj121.2.2.1, .int .i64 cj121.2.2.2.1, .str s142, .bool cj121.2.2.2.2.2]) rfl sz_62 rfl (by simp) rfl
              have S152 : Sep h [] h149 [.blk i1 [.int .i64 cj121.1, .int .i64 cj121.2.1, .int .i64 cj121.2.2.1, .int .i64 cj121.2.2.2.1, .str s142, .bool cj121.2.2.2.2.2] 62, .blk i63 [.int .i64 cj121.1, .int .i64 cj121.2.1, .int .i64 cj121.2.2.1, .int .i64 cj121.2.2.2.1, .str s142, .bool cj121.2.2.2.2.2] 62] := S151
              refine AE_joinR (fun e h' => h149 = h' ∧ e.length = 90 ∧ e.getD 2 .undef = .ptr i1 0 ∧ e.getD 3 .undef = .int .i64 0) (by
                simp only [↓WE, WA, WL, aop, ofValue, ofCell, isConst, abin, acall1, abuiltin, aun, AV.cells, AV.one, Nat.reduceAdd, Int.reduceLT, Int.reduceLE, ↓WD, W0, evalOp, Nat.reduceEqDiff, Nat.reduceLT, ↓reduceIte, reduceCtorEq, hl, e2, e5, ol148, os150]
                exact ⟨rfl, (by simp only [List.length_set, hl]), (by simp only [W0, Nat.reduceEqDiff, Nat.reduceLT, ↓reduceIte, hl, e2, e5]), (by simp only [W0, Nat.reduceEqDiff, Nat.reduceLT, ↓reduceIte, hl, e2, e5])⟩) ?_
              rintro envg153 _ ⟨rfl, hl, e2, e3⟩
              try simp only [↓WD, W0, evalOp, Nat.reduceEqDiff, Nat.reduceLT, ↓reduceIte, reduceCtorEq, hl, e2, e3]
              have ol154 := S152.load (P := Try.prog) 0 rfl (t := 62) (off := 0) (v := .agg [.int .i64 cj121.1, .int .i64 cj121.2.1, .int .i64 cj121.2.2.1, .int .i64 cj121.2.2.2.1, .str s142, .bool cj121.2.2.2.2.2]) (by simp only [apart, ag_62, sz_62]; rfl)
              refine KP_ret (vs := [.agg [.int .i64 cj121.1, .int .i64 cj121.2.1, .int .i64 cj121.2.2.1, .int .i64 cj121.2.2.2.1, .str s142, .bool cj121.2.2.2.2.2], .int .i64 0]) (by simp only [aresults, aresult, gs, List.length_set, Nat.reduceEqDiff, Nat.reduceLT, ↓reduceIte, hl, e2, e3, ol154]) ?_
              obtain rfl := Option.some.inj hF
              exact rfl
set_option maxRecDepth 100000 in
set_option maxHeartbeats 4000000 in
theorem W_law19_EndAny {K : PureK} (k33 : K 33 = some kf_33) (k34 : K 34 = some kf_34) (k35 : K 35 = some kf_35) (n32 : K 32 = none) (n7 : K 7 = none) (m : Nat) (hm : NF + 2 ≤ m) (h : AH) (s_ : List UInt8) {r : Bool} (hF : F_law19_EndAny s_ = some r) :
    AR (acall Try.prog (hooksOf K) (drawnOf Try.prog (tabOf K)) m 7 [.str s_] h) (fun v h' => v = .bool r) := by
  obtain ⟨m, rfl⟩ : ∃ k, m = k + 1 := ⟨m - 1, by omega⟩
  refine AR_call (hooksOf_none n7) Try.func7 rfl _ _ fun env hl he => ?_
  have e0 := he 0
  simp only [List.getD_cons_zero, List.getD_cons_succ] at e0
  simp only [Try.f7] at hl ⊢
  simp only [List.length_cons, List.length_nil, Nat.reduceAdd, Nat.reduceSub] at hl
  clear he
  have S0 : Sep h [] h [] := Sep.nil h
  rw [F_law19_EndAny] at hF
  try simp only [↓WD, W0, evalOp, Nat.reduceEqDiff, Nat.reduceLT, ↓reduceIte, reduceCtorEq, hl, e0]
  rw [AW_region]
  refine AE_joinR (fun e h' => h = h' ∧ e.length = 30 ∧ e.getD 0 .undef = .str s_) (by
    simp only [↓WE, WA, WL, aop, ofValue, ofCell, isConst, abin, acall1, abuiltin, aun, AV.cells, AV.one, Nat.reduceAdd, Int.reduceLT, Int.reduceLE, ↓WD, W0, evalOp, Nat.reduceEqDiff, Nat.reduceLT, ↓reduceIte, reduceCtorEq, hl, e0]
    exact ⟨rfl, (by simp only [List.length_set, hl]), (by simp only [W0, Nat.reduceEqDiff, Nat.reduceLT, ↓reduceIte, hl, e0])⟩) ?_
  rintro envg1 _ ⟨rfl, hl, e0⟩
  try simp only [↓WD, W0, evalOp, Nat.reduceEqDiff, Nat.reduceLT, ↓reduceIte, reduceCtorEq, hl, e0]
  rw [AW_region]
  obtain ⟨y2, qy2, hF⟩ := obind hF
  obtain ⟨v6, h4, og3, rfl, S5⟩ := (W_law19_awake k33 k35 n32 m (by omega) h  qy2).out
  have S7 : Sep h [] h4 [] := S0.call0 S5
  refine AE_joinR (fun e h' => h4 = h' ∧ e.length = 30 ∧ e.getD 0 .undef = .str s_ ∧ e.getD 8 .undef = .bool !y2) (by
    simp only [↓WE, WA, WL, aop, ofValue, ofCell, isConst, abin, acall1, abuiltin, aun, AV.cells, AV.one, Nat.reduceAdd, Int.reduceLT, Int.reduceLE, ↓WD, W0, evalOp, Nat.reduceEqDiff, Nat.reduceLT, ↓reduceIte, reduceCtorEq, hl, e0, og3]
    exact ⟨rfl, (by simp only [List.length_set, hl]), (by simp only [W0, Nat.reduceEqDiff, Nat.reduceLT, ↓reduceIte, hl, e0]), (by simp only [W0, Nat.reduceEqDiff, Nat.reduceLT, ↓reduceIte, hl, e0])⟩) ?_
  rintro envg8 _ ⟨rfl, hl, e0, e8⟩
  try simp only [↓WD, W0, evalOp, Nat.reduceEqDiff, Nat.reduceLT, ↓reduceIte, reduceCtorEq, hl, e0, e8]
  refine CondK_boo (fun c11 => ?_) (fun c11 => ?_)
  · rw [if_pos c11] at hF
    try simp only [↓WD, W0, evalOp, Nat.reduceEqDiff, Nat.reduceLT, ↓reduceIte, reduceCtorEq, hl, e0, e8]
    rw [AW_region]
    refine AE_joinR (fun e h' => h4 = h' ∧ e.length = 30 ∧ e.getD 2 .undef = .bool false) (by
      simp only [↓WE, WA, WL, aop, ofValue, ofCell, isConst, abin, acall1, abuiltin, aun, AV.cells, AV.one, Nat.reduceAdd, Int.reduceLT, Int.reduceLE, ↓WD, W0, evalOp, Nat.reduceEqDiff, Nat.reduceLT, ↓reduceIte, reduceCtorEq, hl, e0, e8]
      exact ⟨rfl, (by simp only [List.length_set, hl]), (by simp only [W0, Nat.reduceEqDiff, Nat.reduceLT, ↓reduceIte, hl, e0, e8])⟩) ?_
    rintro envg12 _ ⟨rfl, hl, e2⟩
    try simp only [↓WD, W0, evalOp, Nat.reduceEqDiff, Nat.reduceLT, ↓reduceIte, reduceCtorEq, hl, e2]
    refine KP_ret (vs := [.bool false]) (by simp only [aresults, aresult, gs, List.length_set, Nat.reduceEqDiff, Nat.reduceLT, ↓reduceIte, hl, e2]) ?_
    obtain rfl := Option.some.inj hF
    exact rfl
  · rw [if_neg (nf c11)] at hF
    try simp only [↓WD, W0, evalOp, Nat.reduceEqDiff, Nat.reduceLT, ↓reduceIte, reduceCtorEq, hl, e0, e8]
    rw [AW_region]
    have ol13 := fun g : AH => alen_str (P := Try.prog) (h := g) (l := s_) Try.underlying9
    refine AE_joinR (fun e h' => h4 = h' ∧ e.length = 30 ∧ e.getD 0 .undef = .str s_ ∧ e.getD 11 .undef = .bool (decide ((s_.length : Int) > 300))) (by
      simp only [↓WE, WA, WL, aop, ofValue, ofCell, isConst, abin, acall1, abuiltin, aun, AV.cells, AV.one, Nat.reduceAdd, Int.reduceLT, Int.reduceLE, ↓WD, W0, evalOp, Nat.reduceEqDiff, Nat.reduceLT, ↓reduceIte, reduceCtorEq, hl, e0, e8, ol13]
      exact ⟨rfl, (by simp only [List.length_set, hl]), (by simp only [W0, Nat.reduceEqDiff, Nat.reduceLT, ↓reduceIte, hl, e0, e8]), (by simp only [W0, Nat.reduceEqDiff, Nat.reduceLT, ↓reduceIte, hl, e0, e8])⟩) ?_
    rintro envg14 _ ⟨rfl, hl, e0, e11⟩
    try simp only [↓WD, W0, evalOp, Nat.reduceEqDiff, Nat.reduceLT, ↓reduceIte, reduceCtorEq, hl, e0, e11]
    refine CondK_dec (fun c17 => ?_) (fun c17 => ?_)
    · rw [if_pos c17] at hF
      try simp only [↓WD, W0, evalOp, Nat.reduceEqDiff, Nat.reduceLT, ↓reduceIte, reduceCtorEq, hl, e0, e11]
      rw [AW_region]
      refine AE_joinR (fun e h' => h4 = h' ∧ e.length = 30 ∧ e.getD 2 .undef = .bool true) (by
        simp only [↓WE, WA, WL, aop, ofValue, ofCell, isConst, abin, acall1, abuiltin, aun, AV.cells, AV.one, Nat.reduceAdd, Int.reduceLT, Int.reduceLE, ↓WD, W0, evalOp, Nat.reduceEqDiff, Nat.reduceLT, ↓reduceIte, reduceCtorEq, hl, e0, e11]
        exact ⟨rfl, (by simp only [List.length_set, hl]), (by simp only [W0, Nat.reduceEqDiff, Nat.reduceLT, ↓reduceIte, hl, e0, e11])⟩) ?_
      rintro envg18 _ ⟨rfl, hl, e2⟩
      try simp only [↓WD, W0, evalOp, Nat.reduceEqDiff, Nat.reduceLT, ↓reduceIte, reduceCtorEq, hl, e2]
      refine KP_ret (vs := [.bool true]) (by simp only [aresults, aresult, gs, List.length_set, Nat.reduceEqDiff, Nat.reduceLT, ↓reduceIte, hl, e2]) ?_
      obtain rfl := Option.some.inj hF
      exact rfl
    · rw [if_neg c17] at hF
      try simp only [↓WD, W0, evalOp, Nat.reduceEqDiff, Nat.reduceLT, ↓reduceIte, reduceCtorEq, hl, e0, e11]
      rw [AW_region]
      obtain ⟨y19, qy19, hF⟩ := obind hF
      have og20 := fun (D : Drawn) (n : Nat) (g : AH) => call_hook (P := Try.prog) (D := D) k33 n (args := [.str s_]) (v := .tup [.agg [.int .i64 y19.1.xAt, .int .i64 y19.1.xCount, .int .i64 y19.1.xSize, .int .i64 y19.1.xOffset, .str y19.1.xComment, .bool y19.1.xWide], .int .i64 y19.2]) ((kf_33_eq s_).trans (by rw [qy19]; rfl)) g
      obtain ⟨i21, h22, oa23, S24⟩ := S7.alloc 62 [.int .i64 0, .int .i64 0, .int .i64 0, .int .i64 0, .str [], .bool false]
      have S26 : Sep h [] h22 [.blk i21 [.int .i64 0, .int .i64 0, .int .i64 0, .int .i64 0, .str [], .bool false] 62] := S24
      obtain ⟨h27, os28, S29⟩ := S26.store (P := Try.prog) 0 rfl (t := 62) (off := 0) (v := .agg [.int .i64 y19.1.xAt, .int .i64 y19.1.xCount, .int .i64 y19.1.xSize, .int .i64 y19.1.xOffset, .str y19.1.xComment, .bool y19.1.xWide]) (c' := [.int .i64 y19.1.xAt, .int .i64 y19.1.xCount, .int .i64 y19.1.xSize, .int .i64 y19.1.xOffset, .str y19.1.xComment, .bool y19.1.xWide]) rfl sz_62 rfl (by simp) rfl
      have S30 : Sep h [] h27 [.blk i21 [.int .i64 y19.1.xAt, .int .i64 y19.1.xCount, .int .i64 y19.1.xSize, .int .i64 y19.1.xOffset, .str y19.1.xComment, .bool y19.1.xWide] 62] := S29
      refine AE_joinR (fun e h' => h27 = h' ∧ e.length = 30 ∧ e.getD 0 .undef = .str s_ ∧ e.getD 3 .undef = .ptr i21 0 ∧ e.getD 4 .undef = .int .i64 y19.2) (by
        simp only [↓WE, WA, WL, aop, ofValue, ofCell, isConst, abin, acall1, abuiltin, aun, AV.cells, AV.one, Nat.reduceAdd, Int.reduceLT, Int.reduceLE, ↓WD, W0, evalOp, Nat.reduceEqDiff, Nat.reduceLT, ↓reduceIte, reduceCtorEq, hl, e0, e11, og20, zero_62, oa23, os28]
        exact ⟨rfl, (by simp only [List.length_set, hl]), (by simp only [W0, Nat.reduceEqDiff, Nat.reduceLT, ↓reduceIte, hl, e0, e11]), (by simp only [W0, Nat.reduceEqDiff, Nat.reduceLT, ↓reduceIte, hl, e0, e11]), (by simp only [W0, Nat.reduceEqDiff, Nat.reduceLT, ↓reduceIte, hl, e0, e11])⟩) ?_
      rintro envg31 _ ⟨rfl, hl, e0, e3, e4⟩
      try simp only [↓WD, W0, evalOp, Nat.reduceEqDiff, Nat.reduceLT, ↓reduceIte, reduceCtorEq, hl, e0, e3, e4]
      rw [AW_region]
      obtain ⟨y32, qy32, hF⟩ := obind hF
      have og33 := fun (D : Drawn) (n : Nat) (g : AH) => call_hook (P := Try.prog) (D := D) k34 n (args := [.str s_]) (v := .tup [.agg [.int .i64 y32.1.xAt, .int .i64 y32.1.xCount, .int .i64 y32.1.xSize, .int .i64 y32.1.xOffset, .str y32.1.xComment, .bool y32.1.xWide], .int .i64 y32.2]) ((kf_34_eq s_).trans (by rw [qy32]; rfl)) g
      obtain ⟨i34, h35, oa36, S37⟩ := S30.alloc 62 [.int .i64 0, .int .i64 0, .int .i64 0, .int .i64 0, .str [], .bool false]
      have S39 : Sep h [] h35 [.blk i21 [.int .i64 y19.1.xAt, .int .i64 y19.1.xCount, .int .i64 y19.1.xSize, .int .i64 y19.1.xOffset, .str y19.1.xComment, .bool y19.1.xWide] 62, .blk i34 [.int .i64 0, .int .i64 0, .int .i64 0, .int .i64 0, .str [], .bool false] 62] := S37
      obtain ⟨h40, os41, S42⟩ := S39.store (P := Try.prog) 1 rfl (t := 62) (off := 0) (v := .agg [.int .i64 y32.1.xAt, .int .i64 y32.1.xCount, .int .i64 y32.1.xSize, .int .i64 y32.1.xOffset, .str y32.1.xComment, .bool y32.1.xWide]) (c' := [.int .i64 y32.1.xAt, .int .i64 y32.1.xCount, .int .i64 y32.1.xSize, .int .i64 y32.1.xOffset, .str y32.1.xComment, .bool y32.1.xWide]) rfl sz_62 rfl (by simp) rfl
      have S43 : Sep h [] h40 [.blk i21 [.int .i64 y19.1.xAt, .int .i64 y19.1.xCount, .int .i64 y19.1.xSize, .int .i64 y19.1.xOffset, .str y19.1.xComment, .bool y19.1.xWide] 62, .blk i34 [.int .i64 y32.1.xAt, .int .i64 y32.1.xCount, .int .i64 y32.1.xSize, .int .i64 y32.1.xOffset, .str y32.1.xComment, .bool y32.1.xWide] 62] := S42
      refine AE_joinR (fun e h' => h40 = h' ∧ e.length = 30 ∧ e.getD 3 .undef = .ptr i21 0 ∧ e.getD 4 .undef = .int .i64 y19.2 ∧ e.getD 5 .undef = .ptr i34 0 ∧ e.getD 6 .undef = .int .i64 y32.2) (by
        simp only [↓WE, WA, WL, aop, ofValue, ofCell, isConst, abin, acall1, abuiltin, aun, AV.cells, AV.one, Nat.reduceAdd, Int.reduceLT, Int.reduceLE, ↓WD, W0, evalOp, Nat.reduceEqDiff, Nat.reduceLT, ↓reduceIte, reduceCtorEq, hl, e0, e3, e4, og33, zero_62, oa36, os41]
        exact ⟨rfl, (by simp only [List.length_set, hl]), (by simp only [W0, Nat.reduceEqDiff, Nat.reduceLT, ↓reduceIte, hl, e0, e3, e4]), (by simp only [W0, Nat.reduceEqDiff, Nat.reduceLT, ↓reduceIte, hl, e0, e3, e4]), (by simp only [W0, Nat.reduceEqDiff, Nat.reduceLT, ↓reduceIte, hl, e0, e3, e4]), (by simp only [W0, Nat.reduceEqDiff, Nat.reduceLT, ↓reduceIte, hl, e0, e3, e4])⟩) ?_
      rintro envg44 _ ⟨rfl, hl, e3, e4, e5, e6⟩
      try simp only [↓WD, W0, evalOp, Nat.reduceEqDiff, Nat.reduceLT, ↓reduceIte, reduceCtorEq, hl, e3, e4, e5, e6]
      rw [AW_region]
      obtain ⟨j50, qj50, hF⟩ := obind hF
      refine AE_joinR (fun e h' => e.length = 30 ∧ e.getD 2 .undef = .bool j50 ∧ Sep h [] h' []) ?_ ?_
      · have ol45 := S43.load (P := Try.prog) 0 rfl (t := 62) (off := 0) (v := .agg [.int .i64 y19.1.xAt, .int .i64 y19.1.xCount, .int .i64 y19.1.xSize, .int .i64 y19.1.xOffset, .str y19.1.xComment, .bool y19.1.xWide]) (by simp only [apart, ag_62, sz_62]; rfl)
        have ol46 := S43.load (P := Try.prog) 1 rfl (t := 62) (off := 0) (v := .agg [.int .i64 y32.1.xAt, .int .i64 y32.1.xCount, .int .i64 y32.1.xSize, .int .i64 y32.1.xOffset, .str y32.1.xComment, .bool y32.1.xWide]) (by simp only [apart, ag_62, sz_62]; rfl)
        simp only [↓WE, WA, WL, aop, ofValue, ofCell, isConst, abin, acall1, abuiltin, aun, AV.cells, AV.one, Nat.reduceAdd, Int.reduceLT, Int.reduceLE, ↓WD, W0, evalOp, Nat.reduceEqDiff, Nat.reduceLT, ↓reduceIte, reduceCtorEq, hl, e3, e4, e5, e6, ol45, ol46, eq_62_eql]
        refine GuardW_boo (fun c47 => ?_) (fun c47 => ?_)
        · rw [if_pos c47] at qj50
          have d48 := c47
          simp only [↓WE, WA, WL, aop, ofValue, ofCell, isConst, abin, acall1, abuiltin, aun, AV.cells, AV.one, Nat.reduceAdd, Int.reduceLT, Int.reduceLE, ↓WD, W0, evalOp, Nat.reduceEqDiff, Nat.reduceLT, ↓reduceIte, reduceCtorEq, hl, e3, e4, e5, e6, ol45, ol46, eq_62_eql, d48]
          obtain rfl := Option.some.inj qj50
          exact ⟨(by simp only [List.length_set, hl]), (by simp only [W0, Nat.reduceEqDiff, Nat.reduceLT, ↓reduceIte, hl, e3, e4, e5, e6]), S43.pick [] (by decide) rfl⟩
        · rw [if_neg (nf c47)] at qj50
          have d49 := c47
          simp only [↓WE, WA, WL, aop, ofValue, ofCell, isConst, abin, acall1, abuiltin, aun, AV.cells, AV.one, Nat.reduceAdd, Int.reduceLT, Int.reduceLE, ↓WD, W0, evalOp, Nat.reduceEqDiff, Nat.reduceLT, ↓reduceIte, reduceCtorEq, hl, e3, e4, e5, e6, ol45, ol46, eq_62_eql, d49]
          obtain rfl := Option.some.inj qj50
          exact ⟨(by simp only [List.length_set, hl]), (by simp only [W0, Nat.reduceEqDiff, Nat.reduceLT, ↓reduceIte, hl, e3, e4, e5, e6]), S43.pick [] (by decide) rfl⟩
      · rintro envj50 h52 ⟨hl, e2, S51⟩
        try simp only [↓WD, W0, evalOp, Nat.reduceEqDiff, Nat.reduceLT, ↓reduceIte, reduceCtorEq, hl, e2]
        refine KP_ret (vs := [.bool j50]) (by simp only [aresults, aresult, gs, List.length_set, Nat.reduceEqDiff, Nat.reduceLT, ↓reduceIte, hl, e2]) ?_
        obtain rfl := Option.some.inj hF
        exact rfl
set_option maxRecDepth 100000 in
set_option maxHeartbeats 4000000 in
theorem W_ref19_in {K : PureK} (n63 : K 63 = none) (m : Nat) (hm : NF + 1 ≤ m) (h : AH) (n_ : Int) (most_ : Int) {r : Bool} (hF : F_ref19_in n_ most_ = some r) :
    AR (acall Try.prog (hooksOf K) (drawnOf Try.prog (tabOf K)) m 63 [.int .i64 n_, .int .i64 most_] h) (fun v h' => v = .bool r) := by
  obtain ⟨m, rfl⟩ : ∃ k, m = k + 1 := ⟨m - 1, by omega⟩
  refine AR_call (hooksOf_none n63) Try.func63 rfl _ _ fun env hl he => ?_
  have e0 := he 0
  have e1 := he 1
  simp only [List.getD_cons_zero, List.getD_cons_succ] at e0 e1
  simp only [Try.f63] at hl ⊢
  simp only [List.length_cons, List.length_nil, Nat.reduceAdd, Nat.reduceSub] at hl
  clear he
  have S0 : Sep h [] h [] := Sep.nil h
  rw [F_ref19_in] at hF
  try simp only [↓WD, W0, evalOp, Nat.reduceEqDiff, Nat.reduceLT, ↓reduceIte, reduceCtorEq, hl, e0, e1]
  rw [AW_region]
  refine AE_joinR (fun e h' => h = h' ∧ e.length = 12 ∧ e.getD 0 .undef = .int .i64 n_ ∧ e.getD 1 .undef = .int .i64 most_) (by
    simp only [↓WE, WA, WL, aop, ofValue, ofCell, isConst, abin, acall1, abuiltin, aun, AV.cells, AV.one, Nat.reduceAdd, Int.reduceLT, Int.reduceLE, ↓WD, W0, evalOp, Nat.reduceEqDiff, Nat.reduceLT, ↓reduceIte, reduceCtorEq, hl, e0, e1]
    exact ⟨rfl, (by simp only [List.length_set, hl]), (by simp only [W0, Nat.reduceEqDiff, Nat.reduceLT, ↓reduceIte, hl, e0, e1]), (by simp only [W0, Nat.reduceEqDiff, Nat.reduceLT, ↓reduceIte, hl, e0, e1])⟩) ?_
  rintro envg1 _ ⟨rfl, hl, e0, e1⟩
  try simp only [↓WD, W0, evalOp, Nat.reduceEqDiff, Nat.reduceLT, ↓reduceIte, reduceCtorEq, hl, e0, e1]
  rw [AW_region]
  obtain ⟨j5, qj5, hF⟩ := obind hF
  refine AE_joinR (fun e h' => e.length = 12 ∧ e.getD 4 .undef = .bool j5 ∧ Sep h [] h' []) ?_ ?_
  · simp only [↓WE, WA, WL, aop, ofValue, ofCell, isConst, abin, acall1, abuiltin, aun, AV.cells, AV.one, Nat.reduceAdd, Int.reduceLT, Int.reduceLE, ↓WD, W0, evalOp, Nat.reduceEqDiff, Nat.reduceLT, ↓reduceIte, reduceCtorEq, hl, e0, e1]
    refine GuardW_dec (fun c2 => ?_) (fun c2 => ?_)
    · rw [if_pos c2] at qj5
      have d3 : (decide (n_ ≥ 0)) = true := decide_eq_true c2
      simp only [↓WE, WA, WL, aop, ofValue, ofCell, isConst, abin, acall1, abuiltin, aun, AV.cells, AV.one, Nat.reduceAdd, Int.reduceLT, Int.reduceLE, ↓WD, W0, evalOp, Nat.reduceEqDiff, Nat.reduceLT, ↓reduceIte, reduceCtorEq, hl, e0, e1, d3]
      obtain rfl := Option.some.inj qj5
      exact ⟨(by simp only [List.length_set, hl]), (by simp only [W0, Nat.reduceEqDiff, Nat.reduceLT, ↓reduceIte, hl, e0, e1]), S0⟩
    · rw [if_neg c2] at qj5
      have d4 : (decide (n_ ≥ 0)) = false := decide_eq_false c2
      simp only [↓WE, WA, WL, aop, ofValue, ofCell, isConst, abin, acall1, abuiltin, aun, AV.cells, AV.one, Nat.reduceAdd, Int.reduceLT, Int.reduceLE, ↓WD, W0, evalOp, Nat.reduceEqDiff, Nat.reduceLT, ↓reduceIte, reduceCtorEq, hl, e0, e1, d4]
      obtain rfl := Option.some.inj qj5
      exact ⟨(by simp only [List.length_set, hl]), (by simp only [W0, Nat.reduceEqDiff, Nat.reduceLT, ↓reduceIte, hl, e0, e1]), S0⟩
  · rintro envj5 h7 ⟨hl, e4, S6⟩
    try simp only [↓WD, W0, evalOp, Nat.reduceEqDiff, Nat.reduceLT, ↓reduceIte, reduceCtorEq, hl, e4]
    refine KP_ret (vs := [.bool j5]) (by simp only [aresults, aresult, gs, List.length_set, Nat.reduceEqDiff, Nat.reduceLT, ↓reduceIte, hl, e4]) ?_
    obtain rfl := Option.some.inj hF
    exact rfl
set_option maxRecDepth 100000 in
set_option maxHeartbeats 4000000 in
theorem W_ref02_Put {K : PureK} (n19 : K 19 = none) (m : Nat) (hm : NF + 1 ≤ m) (h : AH) (v : Int) (n_ : Int) {r : (List UInt8)} (hF : F_ref02_Put v n_ = some r) :
    AR (acall Try.prog (hooksOf K) (drawnOf Try.prog (tabOf K)) m 19 [.int .u64 v, .int .i64 n_] h) (fun v h' => v = .str r) := by
  obtain ⟨m, rfl⟩ : ∃ k, m = k + 1 := ⟨m - 1, by omega⟩
  refine AR_call (hooksOf_none n19) Try.func19 rfl _ _ fun env hl he => ?_
  have e0 := he 0
  have e1 := he 1
  simp only [List.getD_cons_zero, List.getD_cons_succ] at e0 e1
  simp only [Try.f19] at hl ⊢
  simp only [List.length_cons, List.length_nil, Nat.reduceAdd, Nat.reduceSub] at hl
  clear he
  have S0 : Sep h [] h [] := Sep.nil h
  rw [F_ref02_Put] at hF
  try simp only [↓WD, W0, evalOp, Nat.reduceEqDiff, Nat.reduceLT, ↓reduceIte, reduceCtorEq, hl, e0, e1]
  rw [AW_region]
  refine AE_joinR (fun e h' => h = h' ∧ e.length = 22 ∧ e.getD 0 .undef = .int .u64 v ∧ e.getD 1 .undef = .int .i64 n_) (by
    simp only [↓WE, WA, WL, aop, ofValue, ofCell, isConst, abin, acall1, abuiltin, aun, AV.cells, AV.one, Nat.reduceAdd, Int.reduceLT, Int.reduceLE, ↓WD, W0, evalOp, Nat.reduceEqDiff, Nat.reduceLT, ↓reduceIte, reduceCtorEq, hl, e0, e1]
    exact ⟨rfl, (by simp only [List.length_set, hl]), (by simp only [W0, Nat.reduceEqDiff, Nat.reduceLT, ↓reduceIte, hl, e0, e1]), (by simp only [W0, Nat.reduceEqDiff, Nat.reduceLT, ↓reduceIte, hl, e0, e1])⟩) ?_
  rintro envg1 _ ⟨rfl, hl, e0, e1⟩
  try simp only [↓WD, W0, evalOp, Nat.reduceEqDiff, Nat.reduceLT, ↓reduceIte, reduceCtorEq, hl, e0, e1]
  rw [AW_region]
  refine AE_joinR (fun e h' => h = h' ∧ e.length = 22 ∧ e.getD 0 .undef = .int .u64 v ∧ e.getD 1 .undef = .int .i64 n_ ∧ e.getD 5 .undef = .val (.slice none 0 0)) (by
    simp only [↓WE, WA, WL, aop, ofValue, ofCell, isConst, abin, acall1, abuiltin, aun, AV.cells, AV.one, Nat.reduceAdd, Int.reduceLT, Int.reduceLE, ↓WD, W0, evalOp, Nat.reduceEqDiff, Nat.reduceLT, ↓reduceIte, reduceCtorEq, hl, e0, e1]
    exact ⟨rfl, (by simp only [List.length_set, hl]), (by simp only [W0, Nat.reduceEqDiff, Nat.reduceLT, ↓reduceIte, hl, e0, e1]), (by simp only [W0, Nat.reduceEqDiff, Nat.reduceLT, ↓reduceIte, hl, e0, e1]), (by simp only [W0, Nat.reduceEqDiff, Nat.reduceLT, ↓reduceIte, hl, e0, e1])⟩) ?_
  rintro envg2 _ ⟨rfl, hl, e0, e1, e5⟩
  try simp only [↓WD, W0, evalOp, Nat.reduceEqDiff, Nat.reduceLT, ↓reduceIte, reduceCtorEq, hl, e0, e1, e5]
  rw [AW_region]
  refine AE_joinR (fun e h' => h = h' ∧ e.length = 22 ∧ e.getD 0 .undef = .int .u64 v ∧ e.getD 1 .undef = .int .i64 n_ ∧ e.getD 5 .undef = .val (.slice none 0 0) ∧ e.getD 6 .undef = .int .i64 0) (by
    simp only [↓WE, WA, WL, aop, ofValue, ofCell, isConst, abin, acall1, abuiltin, aun, AV.cells, AV.one, Nat.reduceAdd, Int.reduceLT, Int.reduceLE, ↓WD, W0, evalOp, Nat.reduceEqDiff, Nat.reduceLT, ↓reduceIte, reduceCtorEq, hl, e0, e1, e5]
    exact ⟨rfl, (by simp only [List.length_set, hl]), (by simp only [W0, Nat.reduceEqDiff, Nat.reduceLT, ↓reduceIte, hl, e0, e1, e5]), (by simp only [W0, Nat.reduceEqDiff, Nat.reduceLT, ↓reduceIte, hl, e0, e1, e5]), (by simp only [W0, Nat.reduceEqDiff, Nat.reduceLT, ↓reduceIte, hl, e0, e1, e5]), (by simp only [W0, Nat.reduceEqDiff, Nat.reduceLT, ↓reduceIte, hl, e0, e1, e5])⟩) ?_
  rintro envg3 _ ⟨rfl, hl, e0, e1, e5, e6⟩
  try simp only [↓WD, W0, evalOp, Nat.reduceEqDiff, Nat.reduceLT, ↓reduceIte, reduceCtorEq, hl, e0, e1, e5, e6]
  have S30 : Sep h [] h [.row (.val (.slice none 0 0)) 5 1 (([] : List Int).map (cellI .u8))] := S0.nilrow 5 1
  obtain ⟨r60, qr60, hF⟩ := obind hF
  refine AW_lift (L_ref02_Put_1 n_) (fun s e h' => ∃ (u34 : AV), e.length = 22 ∧ e.getD 0 .undef = .int .u64 s.1 ∧ e.getD 1 .undef = .int .i64 n_ ∧ e.getD 5 .undef = u34 ∧ e.getD 6 .undef = .int .i64 s.2.2 ∧ Sep h [] h' [.row u34 5 1 (s.2.1.map (cellI .u8))]) (fun r60 x e h' => ∃ (u61 : AV), x = .exit 0 ∧ e.length = 22 ∧ e.getD 5 .undef = u61 ∧ Sep h [] h' [.row u61 5 1 (r60.map (cellI .u8))]) qr60 (by omega) ?_ ?_ ?_
  · rintro s envr60 h35 or60 ⟨u34, hl, e0, e1, e5, e6, S36⟩ wr60
    rw [L_ref02_Put_1] at wr60
    try simp only [↓WD, W0, evalOp, Nat.reduceEqDiff, Nat.reduceLT, ↓reduceIte, reduceCtorEq, hl, e0, e1, e5, e6]
    rw [AW_region]
    refine AE_joinR (fun e h' => h35 = h' ∧ e.length = 22 ∧ e.getD 0 .undef = .int .u64 s.1 ∧ e.getD 1 .undef = .int .i64 n_ ∧ e.getD 5 .undef = u34 ∧ e.getD 6 .undef = .int .i64 s.2.2 ∧ e.getD 9 .undef = .bool (decide (s.2.2 < n_))) (by
      simp only [↓WE, WA, WL, aop, ofValue, ofCell, isConst, abin, acall1, abuiltin, aun, AV.cells, AV.one, Nat.reduceAdd, Int.reduceLT, Int.reduceLE, ↓WD, W0, evalOp, Nat.reduceEqDiff, Nat.reduceLT, ↓reduceIte, reduceCtorEq, hl, e0, e1, e5, e6]
      exact ⟨rfl, (by simp only [List.length_set, hl]), (by simp only [W0, Nat.reduceEqDiff, Nat.reduceLT, ↓reduceIte, hl, e0, e1, e5, e6]), (by simp only [W0, Nat.reduceEqDiff, Nat.reduceLT, ↓reduceIte, hl, e0, e1, e5, e6]), (by simp only [W0, Nat.reduceEqDiff, Nat.reduceLT, ↓reduceIte, hl, e0, e1, e5, e6]), (by simp only [W0, Nat.reduceEqDiff, Nat.reduceLT, ↓reduceIte, hl, e0, e1, e5, e6]), (by simp only [W0, Nat.reduceEqDiff, Nat.reduceLT, ↓reduceIte, hl, e0, e1, e5, e6])⟩) ?_
    rintro envg37 _ ⟨rfl, hl, e0, e1, e5, e6, e9⟩
    try simp only [↓WD, W0, evalOp, Nat.reduceEqDiff, Nat.reduceLT, ↓reduceIte, reduceCtorEq, hl, e0, e1, e5, e6, e9]
    refine CondK_dec (fun c39 => ?_) (fun c39 => ?_)
    · rw [if_pos c39] at wr60
      try simp only [↓WD, W0, evalOp, Nat.reduceEqDiff, Nat.reduceLT, ↓reduceIte, reduceCtorEq, hl, e0, e1, e5, e6, e9]
      rw [AW_region]
      obtain ⟨y40, qy40, wr60⟩ := obind wr60
      have oy40 := rem_int (k := .u64) qy40
      have oc41 := fun g : AH => aconv_int (P := Try.prog) (h := g) (n := y40) (k' := .u64) Try.underlying25 Try.underlying5
      obtain ⟨u42, h43, ob44, S45⟩ := Sep.build (P := Try.prog) sl_70 S36 [.int .u8 (IntKind.u8.wrap y40)] (([IntKind.u8.wrap y40] : List Int).map (cellI .u8)) rfl (by simp [cellI]) (by simp)
      have ob44 : abuildSlice Try.prog 70 1 [(0, .int .u8 (IntKind.u8.wrap y40))] h35 = some (u42, h43) := ob44
      have S47 : Sep h [] h43 [.row u34 5 1 (s.2.1.map (cellI .u8)), .row u42 5 1 (([IntKind.u8.wrap y40] : List Int).map (cellI .u8))] := S45
      obtain ⟨zs48, qzs48, wr60⟩ := obind wr60
      obtain ⟨u49, h50, op51, S52⟩ := Sep.append (P := Try.prog) (t' := 70) sl_70 (by rw [Try.underlying70]; rfl) S47 0 rfl (S47.row_ro (i := 1) rfl) (fun _ => rfl) qzs48
      have S53 : Sep h [] h50 [.row u49 5 1 (zs48.map (cellI .u8)), .row u42 5 1 (([IntKind.u8.wrap y40] : List Int).map (cellI .u8))] := S52
      refine AE_joinR (fun e h' => h50 = h' ∧ e.length = 22 ∧ e.getD 0 .undef = .int .u64 s.1 ∧ e.getD 1 .undef = .int .i64 n_ ∧ e.getD 5 .undef = u49 ∧ e.getD 6 .undef = .int .i64 s.2.2) (by
        simp only [↓WE, WA, WL, aop, ofValue, ofCell, isConst, abin, acall1, abuiltin, aun, AV.cells, AV.one, Nat.reduceAdd, Int.reduceLT, Int.reduceLE, ↓WD, W0, evalOp, Nat.reduceEqDiff, Nat.reduceLT, ↓reduceIte, reduceCtorEq, hl, e0, e1, e5, e6, e9, oy40, oc41, ob44, op51]
        exact ⟨rfl, (by simp only [List.length_set, hl]), (by simp only [W0, Nat.reduceEqDiff, Nat.reduceLT, ↓reduceIte, hl, e0, e1, e5, e6, e9]), (by simp only [W0, Nat.reduceEqDiff, Nat.reduceLT, ↓reduceIte, hl, e0, e1, e5, e6, e9]), (by simp only [W0, Nat.reduceEqDiff, Nat.reduceLT, ↓reduceIte, hl, e0, e1, e5, e6, e9]), (by simp only [W0, Nat.reduceEqDiff, Nat.reduceLT, ↓reduceIte, hl, e0, e1, e5, e6, e9])⟩) ?_
      rintro envg54 _ ⟨rfl, hl, e0, e1, e5, e6⟩
      try simp only [↓WD, W0, evalOp, Nat.reduceEqDiff, Nat.reduceLT, ↓reduceIte, reduceCtorEq, hl, e0, e1, e5, e6]
      rw [AW_region]
      obtain ⟨y55, qy55, wr60⟩ := obind wr60
      have oy55 := quo_int (k := .u64) qy55
      refine AE_joinR (fun e h' => h50 = h' ∧ e.length = 22 ∧ e.getD 0 .undef = .int .u64 y55 ∧ e.getD 1 .undef = .int .i64 n_ ∧ e.getD 5 .undef = u49 ∧ e.getD 6 .undef = .int .i64 s.2.2) (by
        simp only [↓WE, WA, WL, aop, ofValue, ofCell, isConst, abin, acall1, abuiltin, aun, AV.cells, AV.one, Nat.reduceAdd, Int.reduceLT, Int.reduceLE, ↓WD, W0, evalOp, Nat.reduceEqDiff, Nat.reduceLT, ↓reduceIte, reduceCtorEq, hl, e0, e1, e5, e6, oy55]
        exact ⟨rfl, (by simp only [List.length_set, hl]), (by simp only [W0, Nat.reduceEqDiff, Nat.reduceLT, ↓reduceIte, hl, e0, e1, e5, e6]), (by simp only [W0, Nat.reduceEqDiff, Nat.reduceLT, ↓reduceIte, hl, e0, e1, e5, e6]), (by simp only [W0, Nat.reduceEqDiff, Nat.reduceLT, ↓reduceIte, hl, e0, e1, e5, e6]), (by simp only [W0, Nat.reduceEqDiff, Nat.reduceLT, ↓reduceIte, hl, e0, e1, e5, e6])⟩) ?_
      rintro envg56 _ ⟨rfl, hl, e0, e1, e5, e6⟩
      try simp only [↓WD, W0, evalOp, Nat.reduceEqDiff, Nat.reduceLT, ↓reduceIte, reduceCtorEq, hl, e0, e1, e5, e6]
      rw [AW_region]
      refine AE_joinR (fun e h' => h50 = h' ∧ e.length = 22 ∧ e.getD 0 .undef = .int .u64 y55 ∧ e.getD 1 .undef = .int .i64 n_ ∧ e.getD 5 .undef = u49 ∧ e.getD 6 .undef = .int .i64 (IntKind.i64.wrap (s.2.2 + 1))) (by
        simp only [↓WE, WA, WL, aop, ofValue, ofCell, isConst, abin, acall1, abuiltin, aun, AV.cells, AV.one, Nat.reduceAdd, Int.reduceLT, Int.reduceLE, ↓WD, W0, evalOp, Nat.reduceEqDiff, Nat.reduceLT, ↓reduceIte, reduceCtorEq, hl, e0, e1, e5, e6]
        exact ⟨rfl, (by simp only [List.length_set, hl]), (by simp only [W0, Nat.reduceEqDiff, Nat.reduceLT, ↓reduceIte, hl, e0, e1, e5, e6]), (by simp only [W0, Nat.reduceEqDiff, Nat.reduceLT, ↓reduceIte, hl, e0, e1, e5, e6]), (by simp only [W0, Nat.reduceEqDiff, Nat.reduceLT, ↓reduceIte, hl, e0, e1, e5, e6]), (by simp only [W0, Nat.reduceEqDiff, Nat.reduceLT, ↓reduceIte, hl, e0, e1, e5, e6])⟩) ?_
      rintro envg57 _ ⟨rfl, hl, e0, e1, e5, e6⟩
      try simp only [↓WD, W0, evalOp, Nat.reduceEqDiff, Nat.reduceLT, ↓reduceIte, reduceCtorEq, hl, e0, e1, e5, e6]
      obtain rfl := Option.some.inj wr60
      rw [KP_nil, QL_normal]
      exact ⟨_, rfl, u49, (by simp only [List.length_set, hl]), (by simp only [W0, Nat.reduceEqDiff, Nat.reduceLT, ↓reduceIte, hl, e0, e1, e5, e6]), (by simp only [W0, Nat.reduceEqDiff, Nat.reduceLT, ↓reduceIte, hl, e0, e1, e5, e6]), (by simp only [W0, Nat.reduceEqDiff, Nat.reduceLT, ↓reduceIte, hl, e0, e1, e5, e6]), (by simp only [W0, Nat.reduceEqDiff, Nat.reduceLT, ↓reduceIte, hl, e0, e1, e5, e6]), S53.pick [0] (by decide) rfl⟩
    · rw [if_neg c39] at wr60
      try simp only [↓WD, W0, evalOp, Nat.reduceEqDiff, Nat.reduceLT, ↓reduceIte, reduceCtorEq, hl, e0, e1, e5, e6, e9]
      obtain rfl := Option.some.inj wr60
      rw [KP_nil, QL_exit]
      exact ⟨_, rfl, u34, rfl, (by simp only [List.length_set, hl]), (by simp only [W0, Nat.reduceEqDiff, Nat.reduceLT, ↓reduceIte, hl, e0, e1, e5, e6, e9]), S36⟩
  · exact ⟨.val (.slice none 0 0), (by simp only [List.length_set, hl]), (by simp only [W0, Nat.reduceEqDiff, Nat.reduceLT, ↓reduceIte, hl, e0, e1, e5, e6]), (by simp only [W0, Nat.reduceEqDiff, Nat.reduceLT, ↓reduceIte, hl, e0, e1, e5, e6]), (by simp only [W0, Nat.reduceEqDiff, Nat.reduceLT, ↓reduceIte, hl, e0, e1, e5, e6]), (by simp only [W0, Nat.reduceEqDiff, Nat.reduceLT, ↓reduceIte, hl, e0, e1, e5, e6]), S30⟩
  · rintro x envr60 h62 ⟨u61, rfl, hl, e5, S63⟩
    try simp only [↓WD, W0, evalOp, Nat.reduceEqDiff, Nat.reduceLT, ↓reduceIte, reduceCtorEq, hl, e5]
    rw [AW_region]
    have oc64 := RO.str (P := Try.prog) Try.underlying70 Try.underlying5 Try.underlying9 (S63.row_ro (i := 0) rfl)
    refine AE_joinR (fun e h' => h62 = h' ∧ e.length = 22 ∧ e.getD 4 .undef = .str (r60.map byt)) (by
      simp only [↓WE, WA, WL, aop, ofValue, ofCell, isConst, abin, acall1, abuiltin, aun, AV.cells, AV.one, Nat.reduceAdd, Int.reduceLT, Int.reduceLE, ↓WD, W0, evalOp, Nat.reduceEqDiff, Nat.reduceLT, ↓reduceIte, reduceCtorEq, hl, e5, oc64]
      exact ⟨rfl, (by simp only [List.length_set, hl]), (by simp only [W0, Nat.reduceEqDiff, Nat.reduceLT, ↓reduceIte, hl, e5])⟩) ?_
    rintro envg65 _ ⟨rfl, hl, e4⟩
    try simp only [↓WD, W0, evalOp, Nat.reduceEqDiff, Nat.reduceLT, ↓reduceIte, reduceCtorEq, hl, e4]
    refine KP_ret (vs := [.str (r60.map byt)]) (by simp only [aresults, aresult, gs, List.length_set, Nat.reduceEqDiff, Nat.reduceLT, ↓reduceIte, hl, e4]) ?_
    obtain rfl := Option.some.inj hF
    exact rfl
set_option maxRecDepth 100000 in
set_option maxHeartbeats 4000000 in
theorem W_ref19_Put {K : PureK} (k19 : K 19 = some kf_19) (k63 : K 63 = some kf_63) (n36 : K 36 = none) (m : Nat) (hm : NF + 1 ≤ m) (h : AH) (e_ : Gapi_End) {r : (List UInt8) × Int} (hF : F_ref19_Put e_ = some r) :
    AR (acall Try.prog (hooksOf K) (drawnOf Try.prog (tabOf K)) m 36 [.agg [.int .i64 e_.xAt, .int .i64 e_.xCount, .int .i64 e_.xSize, .int .i64 e_.xOffset, .str e_.xComment, .bool e_.xWide]] h) (fun v h' => v = .tup [.str r.1, .int .i64 r.2]) := by
  obtain ⟨m, rfl⟩ : ∃ k, m = k + 1 := ⟨m - 1, by omega⟩
  refine AR_call (hooksOf_none n36) Try.func36 rfl _ _ fun env hl he => ?_
  have e0 := he 0
  simp only [List.getD_cons_zero, List.getD_cons_succ] at e0
  simp only [Try.f36] at hl ⊢
  simp only [List.length_cons, List.length_nil, Nat.reduceAdd, Nat.reduceSub] at hl
  clear he
  have S0 : Sep h [] h [] := Sep.nil h
  rw [F_ref19_Put] at hF
  try simp only [↓WD, W0, evalOp, Nat.reduceEqDiff, Nat.reduceLT, ↓reduceIte, reduceCtorEq, hl, e0]
  rw [AW_region]
  obtain ⟨i1, h2, oa3, S4⟩ := S0.alloc 62 [.int .i64 e_.xAt, .int .i64 e_.xCount, .int .i64 e_.xSize, .int .i64 e_.xOffset, .str e_.xComment, .bool e_.xWide]
  have S6 : Sep h [] h2 [.blk i1 [.int .i64 e_.xAt, .int .i64 e_.xCount, .int .i64 e_.xSize, .int .i64 e_.xOffset, .str e_.xComment, .bool e_.xWide] 62] := S4
  refine AE_joinR (fun e h' => h2 = h' ∧ e.length = 122 ∧ e.getD 1 .undef = .ptr i1 0) (by
    simp only [↓WE, WA, WL, aop, ofValue, ofCell, isConst, abin, acall1, abuiltin, aun, AV.cells, AV.one, Nat.reduceAdd, Int.reduceLT, Int.reduceLE, ↓WD, W0, evalOp, Nat.reduceEqDiff, Nat.reduceLT, ↓reduceIte, reduceCtorEq, hl, e0, oa3]
    exact ⟨rfl, (by simp only [List.length_set, hl]), (by simp only [W0, Nat.reduceEqDiff, Nat.reduceLT, ↓reduceIte, hl, e0])⟩) ?_
  rintro envg7 _ ⟨rfl, hl, e1⟩
  try simp only [↓WD, W0, evalOp, Nat.reduceEqDiff, Nat.reduceLT, ↓reduceIte, reduceCtorEq, hl, e1]
  rw [AW_region]
  refine AE_joinR (fun e h' => h2 = h' ∧ e.length = 122 ∧ e.getD 1 .undef = .ptr i1 0 ∧ e.getD 4 .undef = .int .i64 65534) (by
    simp only [↓WE, WA, WL, aop, ofValue, ofCell, isConst, abin, acall1, abuiltin, aun, AV.cells, AV.one, Nat.reduceAdd, Int.reduceLT, Int.reduceLE, ↓WD, W0, evalOp, Nat.reduceEqDiff, Nat.reduceLT, ↓reduceIte, reduceCtorEq, hl, e1]
    exact ⟨rfl, (by simp only [List.length_set, hl]), (by simp only [W0, Nat.reduceEqDiff, Nat.reduceLT, ↓reduceIte, hl, e1]), (by simp only [W0, Nat.reduceEqDiff, Nat.reduceLT, ↓reduceIte, hl, e1])⟩) ?_
  rintro envg8 _ ⟨rfl, hl, e1, e4⟩
  try simp only [↓WD, W0, evalOp, Nat.reduceEqDiff, Nat.reduceLT, ↓reduceIte, reduceCtorEq, hl, e1, e4]
  rw [AW_region]
  refine AE_joinR (fun e h' => h2 = h' ∧ e.length = 122 ∧ e.getD 1 .undef = .ptr i1 0 ∧ e.getD 4 .undef = .int .i64 65534 ∧ e.getD 5 .undef = .int .i64 4294967294) (by
    simp only [↓WE, WA, WL, aop, ofValue, ofCell, isConst, abin, acall1, abuiltin, aun, AV.cells, AV.one, Nat.reduceAdd, Int.reduceLT, Int.reduceLE, ↓WD, W0, evalOp, Nat.reduceEqDiff, Nat.reduceLT, ↓reduceIte, reduceCtorEq, hl, e1, e4]
    exact ⟨rfl, (by simp only [List.length_set, hl]), (by simp only [W0, Nat.reduceEqDiff, Nat.reduceLT, ↓reduceIte, hl, e1, e4]), (by simp only [W0, Nat.reduceEqDiff, Nat.reduceLT, ↓reduceIte, hl, e1, e4]), (by simp only [W0, Nat.reduceEqDiff, Nat.reduceLT, ↓reduceIte, hl, e1, e4])⟩) ?_
  rintro envg9 _ ⟨rfl, hl, e1, e4, e5⟩
  try simp only [↓WD, W0, evalOp, Nat.reduceEqDiff, Nat.reduceLT, ↓reduceIte, reduceCtorEq, hl, e1, e4, e5]
  rw [AW_region]
  have ol10 := S6.load (P := Try.prog) 0 rfl (t := 4) (off := 5) (v := .bool e_.xWide) (by simp only [apart, ag_4, sz_4]; rfl)
  refine AE_joinR (fun e h' => h2 = h' ∧ e.length = 122 ∧ e.getD 1 .undef = .ptr i1 0 ∧ e.getD 4 .undef = .int .i64 65534 ∧ e.getD 5 .undef = .int .i64 4294967294 ∧ e.getD 11 .undef = .bool e_.xWide) (by
    simp only [↓WE, WA, WL, aop, ofValue, ofCell, isConst, abin, acall1, abuiltin, aun, AV.cells, AV.one, Nat.reduceAdd, Int.reduceLT, Int.reduceLE, ↓WD, W0, evalOp, Nat.reduceEqDiff, Nat.reduceLT, ↓reduceIte, reduceCtorEq, hl, e1, e4, e5, fa_62_5, ol10]
    exact ⟨rfl, (by simp only [List.length_set, hl]), (by simp only [W0, Nat.reduceEqDiff, Nat.reduceLT, ↓reduceIte, hl, e1, e4, e5]), (by simp only [W0, Nat.reduceEqDiff, Nat.reduceLT, ↓reduceIte, hl, e1, e4, e5]), (by simp only [W0, Nat.reduceEqDiff, Nat.reduceLT, ↓reduceIte, hl, e1, e4, e5]), (by simp only [W0, Nat.reduceEqDiff, Nat.reduceLT, ↓reduceIte, hl, e1, e4, e5])⟩) ?_
  rintro envg11 _ ⟨rfl, hl, e1, e4, e5, e11⟩
  try simp only [↓WD, W0, evalOp, Nat.reduceEqDiff, Nat.reduceLT, ↓reduceIte, reduceCtorEq, hl, e1, e4, e5, e11]
  obtain ⟨j15, qj15, hF⟩ := obind hF
  refine CondK_join (fun e h' => e.length = 122 ∧ e.getD 1 .undef = .ptr i1 0 ∧ e.getD 4 .undef = .int .i64 j15.1 ∧ e.getD 5 .undef = .int .i64 j15.2 ∧ Sep h [] h' [.blk i1 [.int .i64 e_.xAt, .int .i64 e_.xCount, .int .i64 e_.xSize, .int .i64 e_.xOffset, .str e_.xComment, .bool e_.xWide] 62]) ?_ ?_
  · refine CondK_boo (fun c12 => ?_) (fun c12 => ?_)
    · rw [if_pos c12] at qj15
      try simp only [↓WD, W0, evalOp, Nat.reduceEqDiff, Nat.reduceLT, ↓reduceIte, reduceCtorEq, hl, e1, e4, e5, e11]
      rw [AW_region]
      refine AE_joinR (fun e h' => h2 = h' ∧ e.length = 122 ∧ e.getD 1 .undef = .ptr i1 0 ∧ e.getD 4 .undef = .int .i64 1099511627776) (by
        simp only [↓WE, WA, WL, aop, ofValue, ofCell, isConst, abin, acall1, abuiltin, aun, AV.cells, AV.one, Nat.reduceAdd, Int.reduceLT, Int.reduceLE, ↓WD, W0, evalOp, Nat.reduceEqDiff, Nat.reduceLT, ↓reduceIte, reduceCtorEq, hl, e1, e4, e5, e11]
        exact ⟨rfl, (by simp only [List.length_set, hl]), (by simp only [W0, Nat.reduceEqDiff, Nat.reduceLT, ↓reduceIte, hl, e1, e4, e5, e11]), (by simp only [W0, Nat.reduceEqDiff, Nat.reduceLT, ↓reduceIte, hl, e1, e4, e5, e11])⟩) ?_
      rintro envg13 _ ⟨rfl, hl, e1, e4⟩
      try simp only [↓WD, W0, evalOp, Nat.reduceEqDiff, Nat.reduceLT, ↓reduceIte, reduceCtorEq, hl, e1, e4]
      rw [AW_region]
      refine AE_joinR (fun e h' => h2 = h' ∧ e.length = 122 ∧ e.getD 1 .undef = .ptr i1 0 ∧ e.getD 4 .undef = .int .i64 1099511627776 ∧ e.getD 5 .undef = .int .i64 1099511627776) (by
        simp only [↓WE, WA, WL, aop, ofValue, ofCell, isConst, abin, acall1, abuiltin, aun, AV.cells, AV.one, Nat.reduceAdd, Int.reduceLT, Int.reduceLE, ↓WD, W0, evalOp, Nat.reduceEqDiff, Nat.reduceLT, ↓reduceIte, reduceCtorEq, hl, e1, e4]
        exact ⟨rfl, (by simp only [List.length_set, hl]), (by simp only [W0, Nat.reduceEqDiff, Nat.reduceLT, ↓reduceIte, hl, e1, e4]), (by simp only [W0, Nat.reduceEqDiff, Nat.reduceLT, ↓reduceIte, hl, e1, e4]), (by simp only [W0, Nat.reduceEqDiff, Nat.reduceLT, ↓reduceIte, hl, e1, e4])⟩) ?_
      rintro envg14 _ ⟨rfl, hl, e1, e4, e5⟩
      try simp only [↓WD, W0, evalOp, Nat.reduceEqDiff, Nat.reduceLT, ↓reduceIte, reduceCtorEq, hl, e1, e4, e5]
      rw [KP_nil, KJ_normal]
      obtain rfl := Option.some.inj qj15
      exact ⟨(by simp only [List.length_set, hl]), (by simp only [W0, Nat.reduceEqDiff, Nat.reduceLT, ↓reduceIte, hl, e1, e4, e5]), (by simp only [W0, Nat.reduceEqDiff, Nat.reduceLT, ↓reduceIte, hl, e1, e4, e5]), (by simp only [W0, Nat.reduceEqDiff, Nat.reduceLT, ↓reduceIte, hl, e1, e4, e5]), S6⟩
    · rw [if_neg (nf c12)] at qj15
      try simp only [↓WD, W0, evalOp, Nat.reduceEqDiff, Nat.reduceLT, ↓reduceIte, reduceCtorEq, hl, e1, e4, e5, e11]
      rw [KP_nil, KJ_normal]
      obtain rfl := Option.some.inj qj15
      exact ⟨(by simp only [List.length_set, hl]), (by simp only [W0, Nat.reduceEqDiff, Nat.reduceLT, ↓reduceIte, hl, e1, e4, e5, e11]), (by simp only [W0, Nat.reduceEqDiff, Nat.reduceLT, ↓reduceIte, hl, e1, e4, e5, e11]), (by simp only [W0, Nat.reduceEqDiff, Nat.reduceLT, ↓reduceIte, hl, e1, e4, e5, e11]), S6⟩
  · rintro envj15 h17 ⟨hl, e1, e4, e5, S16⟩
    try simp only [↓WD, W0, evalOp, Nat.reduceEqDiff, Nat.reduceLT, ↓reduceIte, reduceCtorEq, hl, e1, e4, e5]
    rw [AW_region]
    obtain ⟨j44, qj44, hF⟩ := obind hF
    refine AE_joinR (fun e h' => e.length = 122 ∧ e.getD 1 .undef = .ptr i1 0 ∧ e.getD 46 .undef = .bool j44 ∧ Sep h [] h' [.blk i1 [.int .i64 e_.xAt, .int .i64 e_.xCount, .int .i64 e_.xSize, .int .i64 e_.xOffset, .str e_.xComment, .bool e_.xWide] 62]) ?_ ?_
    · have ol18 := S16.load (P := Try.prog) 0 rfl (t := 3) (off := 1) (v := .int .i64 e_.xCount) (by simp only [apart, ag_3, sz_3]; rfl)
      obtain ⟨y19, qy19, qj44⟩ := obind qj44
      have og20 := fun (D : Drawn) (n : Nat) (g : AH) => call_hook (P := Try.prog) (D := D) k63 n (args := [.int .i64 e_.xCount, .int .i64 j15.1]) (v := .bool y19) ((kf_63_eq e_.xCount j15.1).trans (by rw [qy19]; rfl)) g
      simp only [↓WE, WA, WL, aop, ofValue, ofCell, isConst, abin, acall1, abuiltin, aun, AV.cells, AV.one, Nat.reduceAdd, Int.reduceLT, Int.reduceLE, ↓WD, W0, evalOp, Nat.reduceEqDiff, Nat.reduceLT, ↓reduceIte, reduceCtorEq, hl, e1, e4, e5, fa_62_1, ol18, og20]
      refine GuardW_boo (fun c21 => ?_) (fun c21 => ?_)
      · rw [if_pos c21] at qj44
        have d22 := c21
        simp only [↓WE, WA, WL, aop, ofValue, ofCell, isConst, abin, acall1, abuiltin, aun, AV.cells, AV.one, Nat.reduceAdd, Int.reduceLT, Int.reduceLE, ↓WD, W0, evalOp, Nat.reduceEqDiff, Nat.reduceLT, ↓reduceIte, reduceCtorEq, hl, e1, e4, e5, fa_62_1, ol18, og20, d22]
        obtain rfl := Option.some.inj qj44
        exact ⟨(by simp only [List.length_set, hl]), (by simp only [W0, Nat.reduceEqDiff, Nat.reduceLT, ↓reduceIte, hl, e1, e4, e5]), (by simp only [W0, Nat.reduceEqDiff, Nat.reduceLT, ↓reduceIte, hl, e1, e4, e5]), S16⟩
      · rw [if_neg (nf c21)] at qj44
        have d23 := c21
        have ol24 := S16.load (P := Try.prog) 0 rfl (t := 3) (off := 2) (v := .int .i64 e_.xSize) (by simp only [apart, ag_3, sz_3]; rfl)
        obtain ⟨y25, qy25, qj44⟩ := obind qj44
        have og26 := fun (D : Drawn) (n : Nat) (g : AH) => call_hook (P := Try.prog) (D := D) k63 n (args := [.int .i64 e_.xSize, .int .i64 j15.2]) (v := .bool y25) ((kf_63_eq e_.xSize j15.2).trans (by rw [qy25]; rfl)) g
        simp only [↓WE, WA, WL, aop, ofValue, ofCell, isConst, abin, acall1, abuiltin, aun, AV.cells, AV.one, Nat.reduceAdd, Int.reduceLT, Int.reduceLE, ↓WD, W0, evalOp, Nat.reduceEqDiff, Nat.reduceLT, ↓reduceIte, reduceCtorEq, hl, e1, e4, e5, fa_62_1, ol18, og20, fa_62_2, ol24, og26, d23]
        refine GuardW_boo (fun c27 => ?_) (fun c27 => ?_)
        · rw [if_pos c27] at qj44
          have d28 := c27
          simp only [↓WE, WA, WL, aop, ofValue, ofCell, isConst, abin, acall1, abuiltin, aun, AV.cells, AV.one, Nat.reduceAdd, Int.reduceLT, Int.reduceLE, ↓WD, W0, evalOp, Nat.reduceEqDiff, Nat.reduceLT, ↓reduceIte, reduceCtorEq, hl, e1, e4, e5, fa_62_1, ol18, og20, fa_62_2, ol24, og26, d23, d28]
          obtain rfl := Option.some.inj qj44
          exact ⟨(by simp only [List.length_set, hl]), (by simp only [W0, Nat.reduceEqDiff, Nat.reduceLT, ↓reduceIte, hl, e1, e4, e5]), (by simp only [W0, Nat.reduceEqDiff, Nat.reduceLT, ↓reduceIte, hl, e1, e4, e5]), S16⟩
        · rw [if_neg (nf c27)] at qj44
          have d29 := c27
          have ol30 := S16.load (P := Try.prog) 0 rfl (t := 3) (off := 3) (v := .int .i64 e_.xOffset) (by simp only [apart, ag_3, sz_3]; rfl)
          obtain ⟨y31, qy31, qj44⟩ := obind qj44
          have og32 := fun (D : Drawn) (n : Nat) (g : AH) => call_hook (P := Try.prog) (D := D) k63 n (args := [.int .i64 e_.xOffset, .int .i64 j15.2]) (v := .bool y31) ((kf_63_eq e_.xOffset j15.2).trans (by rw [qy31]; rfl)) g
          simp only [↓WE, WA, WL, aop, ofValue, ofCell, isConst, abin, acall1, abuiltin, aun, AV.cells, AV.one, Nat.reduceAdd, Int.reduceLT, Int.reduceLE, ↓WD, W0, evalOp, Nat.reduceEqDiff, Nat.reduceLT, ↓reduceIte, reduceCtorEq, hl, e1, e4, e5, fa_62_1, ol18, og20, fa_62_2, ol24, og26, fa_62_3, ol30, og32, d23, d29]
          refine GuardW_boo (fun c33 => ?_) (fun c33 => ?_)
          · rw [if_pos c33] at qj44
            have d34 := c33
            simp only [↓WE, WA, WL, aop, ofValue, ofCell, isConst, abin, acall1, abuiltin, aun, AV.cells, AV.one, Nat.reduceAdd, Int.reduceLT, Int.reduceLE, ↓WD, W0, evalOp, Nat.reduceEqDiff, Nat.reduceLT, ↓reduceIte, reduceCtorEq, hl, e1, e4, e5, fa_62_1, ol18, og20, fa_62_2, ol24, og26, fa_62_3, ol30, og32, d23, d29, d34]
            obtain rfl := Option.some.inj qj44
            exact ⟨(by simp only [List.length_set, hl]), (by simp only [W0, Nat.reduceEqDiff, Nat.reduceLT, ↓reduceIte, hl, e1, e4, e5]), (by simp only [W0, Nat.reduceEqDiff, Nat.reduceLT, ↓reduceIte, hl, e1, e4, e5]), S16⟩
          · rw [if_neg (nf c33)] at qj44
            have d35 := c33
            have ol36 := S16.load (P := Try.prog) 0 rfl (t := 3) (off := 0) (v := .int .i64 e_.xAt) (by simp only [apart, ag_3, sz_3]; rfl)
            have ol37 := S16.load (P := Try.prog) 0 rfl (t := 3) (off := 3) (v := .int .i64 e_.xOffset) (by simp only [apart, ag_3, sz_3]; rfl)
            have ol38 := S16.load (P := Try.prog) 0 rfl (t := 3) (off := 2) (v := .int .i64 e_.xSize) (by simp only [apart, ag_3, sz_3]; rfl)
            simp only [↓WE, WA, WL, aop, ofValue, ofCell, isConst, abin, acall1, abuiltin, aun, AV.cells, AV.one, Nat.reduceAdd, Int.reduceLT, Int.reduceLE, ↓WD, W0, evalOp, Nat.reduceEqDiff, Nat.reduceLT, ↓reduceIte, reduceCtorEq, hl, e1, e4, e5, fa_62_1, ol18, og20, fa_62_2, ol24, og26, fa_62_3, ol30, og32, fa_62_0, ol36, ol37, ol38, d23, d29, d35]
            refine GuardW_boo (fun c39 => ?_) (fun c39 => ?_)
            · rw [if_pos c39] at qj44
              have d40 := c39
              simp only [↓WE, WA, WL, aop, ofValue, ofCell, isConst, abin, acall1, abuiltin, aun, AV.cells, AV.one, Nat.reduceAdd, Int.reduceLT, Int.reduceLE, ↓WD, W0, evalOp, Nat.reduceEqDiff, Nat.reduceLT, ↓reduceIte, reduceCtorEq, hl, e1, e4, e5, fa_62_1, ol18, og20, fa_62_2, ol24, og26, fa_62_3, ol30, og32, fa_62_0, ol36, ol37, ol38, d23, d29, d35, d40]
              obtain rfl := Option.some.inj qj44
              exact ⟨(by simp only [List.length_set, hl]), (by simp only [W0, Nat.reduceEqDiff, Nat.reduceLT, ↓reduceIte, hl, e1, e4, e5]), (by simp only [W0, Nat.reduceEqDiff, Nat.reduceLT, ↓reduceIte, hl, e1, e4, e5]), S16⟩
            · rw [if_neg (nf c39)] at qj44
              have d41 := c39
              have ol42 := S16.load (P := Try.prog) 0 rfl (t := 9) (off := 4) (v := .str e_.xComment) (by simp only [apart, ag_9, sz_9]; rfl)
              have ol43 := fun g : AH => alen_str (P := Try.prog) (h := g) (l := e_.xComment) Try.underlying9
              simp only [↓WE, WA, WL, aop, ofValue, ofCell, isConst, abin, acall1, abuiltin, aun, AV.cells, AV.one, Nat.reduceAdd, Int.reduceLT, Int.reduceLE, ↓WD, W0, evalOp, Nat.reduceEqDiff, Nat.reduceLT, ↓reduceIte, reduceCtorEq, hl, e1, e4, e5, fa_62_1, ol18, og20, fa_62_2, ol24, og26, fa_62_3, ol30, og32, fa_62_0, ol36, ol37, ol38, fa_62_4, ol42, ol43, d23, d29, d35, d41]
              obtain rfl := Option.some.inj qj44
              exact ⟨(by simp only [List.length_set, hl]), (by simp only [W0, Nat.reduceEqDiff, Nat.reduceLT, ↓reduceIte, hl, e1, e4, e5]), (by simp only [W0, Nat.reduceEqDiff, Nat.reduceLT, ↓reduceIte, hl, e1, e4, e5]), S16⟩
    · rintro envj44 h46 ⟨hl, e1, e46, S45⟩
      try simp only [↓WD, W0, evalOp, Nat.reduceEqDiff, Nat.reduceLT, ↓reduceIte, reduceCtorEq, hl, e1, e46]
      refine CondK_boo (fun c49 => ?_) (fun c49 => ?_)
      · rw [if_pos c49] at hF
        try simp only [↓WD, W0, evalOp, Nat.reduceEqDiff, Nat.reduceLT, ↓reduceIte, reduceCtorEq, hl, e1, e46]
        rw [AW_region]
        refine AE_joinR (fun e h' => h46 = h' ∧ e.length = 122 ∧ e.getD 2 .undef = .str [] ∧ e.getD 3 .undef = .int .i64 1) (by
          simp only [↓WE, WA, WL, aop, ofValue, ofCell, isConst, abin, acall1, abuiltin, aun, AV.cells, AV.one, Nat.reduceAdd, Int.reduceLT, Int.reduceLE, ↓WD, W0, evalOp, Nat.reduceEqDiff, Nat.reduceLT, ↓reduceIte, reduceCtorEq, hl, e1, e46]
          exact ⟨rfl, (by simp only [List.length_set, hl]), (by simp only [W0, Nat.reduceEqDiff, Nat.reduceLT, ↓reduceIte, hl, e1, e46]), (by simp only [W0, Nat.reduceEqDiff, Nat.reduceLT, ↓reduceIte, hl, e1, e46])⟩) ?_
        rintro envg50 _ ⟨rfl, hl, e2, e3⟩
        try simp only [↓WD, W0, evalOp, Nat.reduceEqDiff, Nat.reduceLT, ↓reduceIte, reduceCtorEq, hl, e2, e3]
        refine KP_ret (vs := [.str [], .int .i64 1]) (by simp only [aresults, aresult, gs, List.length_set, Nat.reduceEqDiff, Nat.reduceLT, ↓reduceIte, hl, e2, e3]) ?_
        obtain rfl := Option.some.inj hF
        exact rfl
      · rw [if_neg (nf c49)] at hF
        try simp only [↓WD, W0, evalOp, Nat.reduceEqDiff, Nat.reduceLT, ↓reduceIte, reduceCtorEq, hl, e1, e46]
        rw [AW_region]
        refine AE_joinR (fun e h' => h46 = h' ∧ e.length = 122 ∧ e.getD 1 .undef = .ptr i1 0 ∧ e.getD 6 .undef = .str []) (by
          simp only [↓WE, WA, WL, aop, ofValue, ofCell, isConst, abin, acall1, abuiltin, aun, AV.cells, AV.one, Nat.reduceAdd, Int.reduceLT, Int.reduceLE, ↓WD, W0, evalOp, Nat.reduceEqDiff, Nat.reduceLT, ↓reduceIte, reduceCtorEq, hl, e1, e46]
          exact ⟨rfl, (by simp only [List.length_set, hl]), (by simp only [W0, Nat.reduceEqDiff, Nat.reduceLT, ↓reduceIte, hl, e1, e46]), (by simp only [W0, Nat.reduceEqDiff, Nat.reduceLT, ↓reduceIte, hl, e1, e46])⟩) ?_
        rintro envg51 _ ⟨rfl, hl, e1, e6⟩
        try simp only [↓WD, W0, evalOp, Nat.reduceEqDiff, Nat.reduceLT, ↓reduceIte, reduceCtorEq, hl, e1, e6]
        rw [AW_region]
        have ol52 := S45.load (P := Try.prog) 0 rfl (t := 3) (off := 1) (v := .int .i64 e_.xCount) (by simp only [apart, ag_3, sz_3]; rfl)
        refine AE_joinR (fun e h' => h46 = h' ∧ e.length = 122 ∧ e.getD 1 .undef = .ptr i1 0 ∧ e.getD 6 .undef = .str [] ∧ e.getD 7 .undef = .int .i64 e_.xCount) (by
          simp only [↓WE, WA, WL, aop, ofValue, ofCell, isConst, abin, acall1, abuiltin, aun, AV.cells, AV.one, Nat.reduceAdd, Int.reduceLT, Int.reduceLE, ↓WD, W0, evalOp, Nat.reduceEqDiff, Nat.reduceLT, ↓reduceIte, reduceCtorEq, hl, e1, e6, fa_62_1, ol52]
          exact ⟨rfl, (by simp only [List.length_set, hl]), (by simp only [W0, Nat.reduceEqDiff, Nat.reduceLT, ↓reduceIte, hl, e1, e6]), (by simp only [W0, Nat.reduceEqDiff, Nat.reduceLT, ↓reduceIte, hl, e1, e6]), (by simp only [W0, Nat.reduceEqDiff, Nat.reduceLT, ↓reduceIte, hl, e1, e6])⟩) ?_
        rintro envg53 _ ⟨rfl, hl, e1, e6, e7⟩
        try simp only [↓WD, W0, evalOp, Nat.reduceEqDiff, Nat.reduceLT, ↓reduceIte, reduceCtorEq, hl, e1, e6, e7]
        rw [AW_region]
        have ol54 := S45.load (P := Try.prog) 0 rfl (t := 3) (off := 2) (v := .int .i64 e_.xSize) (by simp only [apart, ag_3, sz_3]; rfl)
        refine AE_joinR (fun e h' => h46 = h' ∧ e.length = 122 ∧ e.getD 1 .undef = .ptr i1 0 ∧ e.getD 6 .undef = .str [] ∧ e.getD 7 .undef = .int .i64 e_.xCount ∧ e.getD 8 .undef = .int .i64 e_.xSize) (by
          simp only [↓WE, WA, WL, aop, ofValue, ofCell, isConst, abin, acall1, abuiltin, aun, AV.cells, AV.one, Nat.reduceAdd, Int.reduceLT, Int.reduceLE, ↓WD, W0, evalOp, Nat.reduceEqDiff, Nat.reduceLT, ↓reduceIte, reduceCtorEq, hl, e1, e6, e7, fa_62_2, ol54]
          exact ⟨rfl, (by simp only [List.length_set, hl]), (by simp only [W0, Nat.reduceEqDiff, Nat.reduceLT, ↓reduceIte, hl, e1, e6, e7]), (by simp only [W0, Nat.reduceEqDiff, Nat.reduceLT, ↓reduceIte, hl, e1, e6, e7]), (by simp only [W0, Nat.reduceEqDiff, Nat.reduceLT, ↓reduceIte, hl, e1, e6, e7]), (by simp only [W0, Nat.reduceEqDiff, Nat.reduceLT, ↓reduceIte, hl, e1, e6, e7])⟩) ?_
        rintro envg55 _ ⟨rfl, hl, e1, e6, e7, e8⟩
        try simp only [↓WD, W0, evalOp, Nat.reduceEqDiff, Nat.reduceLT, ↓reduceIte, reduceCtorEq, hl, e1, e6, e7, e8]
        rw [AW_region]
        have ol56 := S45.load (P := Try.prog) 0 rfl (t := 3) (off := 3) (v := .int .i64 e_.xOffset) (by simp only [apart, ag_3, sz_3]; rfl)
        refine AE_joinR (fun e h' => h46 = h' ∧ e.length = 122 ∧ e.getD 1 .undef = .ptr i1 0 ∧ e.getD 6 .undef = .str [] ∧ e.getD 7 .undef = .int .i64 e_.xCount ∧ e.getD 8 .undef = .int .i64 e_.xSize ∧ e.getD 9 .undef = .int .i64 e_.xOffset) (by
          simp only [↓WE, WA, WL, aop, ofValue, ofCell, isConst, abin, acall1, abuiltin, aun, AV.cells, AV.one, Nat.reduceAdd, Int.reduceLT, Int.reduceLE, ↓WD, W0, evalOp, Nat.reduceEqDiff, Nat.reduceLT, ↓reduceIte, reduceCtorEq, hl, e1, e6, e7, e8, fa_62_3, ol56]
          exact ⟨rfl, (by simp only [List.length_set, hl]), (by simp only [W0, Nat.reduceEqDiff, Nat.reduceLT, ↓reduceIte, hl, e1, e6, e7, e8]), (by simp only [W0, Nat.reduceEqDiff, Nat.reduceLT, ↓reduceIte, hl, e1, e6, e7, e8]), (by simp only [W0, Nat.reduceEqDiff, Nat.reduceLT, ↓reduceIte, hl, e1, e6, e7, e8]), (by simp only [W0, Nat.reduceEqDiff, Nat.reduceLT, ↓reduceIte, hl, e1, e6, e7, e8]), (by simp only [W0, Nat.reduceEqDiff, Nat.reduceLT, ↓reduceIte, hl, e1, e6, e7, e8])⟩) ?_
        rintro envg57 _ ⟨rfl, hl, e1, e6, e7, e8, e9⟩
        try simp only [↓WD, W0, evalOp, Nat.reduceEqDiff, Nat.reduceLT, ↓reduceIte, reduceCtorEq, hl, e1, e6, e7, e8, e9]
        rw [AW_region]
        have ol58 := S45.load (P := Try.prog) 0 rfl (t := 4) (off := 5) (v := .bool e_.xWide) (by simp only [apart, ag_4, sz_4]; rfl)
        refine AE_joinR (fun e h' => h46 = h' ∧ e.length = 122 ∧ e.getD 1 .undef = .ptr i1 0 ∧ e.getD 6 .undef = .str [] ∧ e.getD 7 .undef = .int .i64 e_.xCount ∧ e.getD 8 .undef = .int .i64 e_.xSize ∧ e.getD 9 .undef = .int .i64 e_.xOffset ∧ e.getD 54 .undef = .bool e_.xWide) (by
          simp only [↓WE, WA, WL, aop, ofValue, ofCell, isConst, abin, acall1, abuiltin, aun, AV.cells, AV.one, Nat.reduceAdd, Int.reduceLT, Int.reduceLE, ↓WD, W0, evalOp, Nat.reduceEqDiff, Nat.reduceLT, ↓reduceIte, reduceCtorEq, hl, e1, e6, e7, e8, e9, fa_62_5, ol58]
          exact ⟨rfl, (by simp only [List.length_set, hl]), (by simp only [W0, Nat.reduceEqDiff, Nat.reduceLT, ↓reduceIte, hl, e1, e6, e7, e8, e9]), (by simp only [W0, Nat.reduceEqDiff, Nat.reduceLT, ↓reduceIte, hl, e1, e6, e7, e8, e9]), (by simp only [W0, Nat.reduceEqDiff, Nat.reduceLT, ↓reduceIte, hl, e1, e6, e7, e8, e9]), (by simp only [W0, Nat.reduceEqDiff, Nat.reduceLT, ↓reduceIte, hl, e1, e6, e7, e8, e9]), (by simp only [W0, Nat.reduceEqDiff, Nat.reduceLT, ↓reduceIte, hl, e1, e6, e7, e8, e9]), (by simp only [W0, Nat.reduceEqDiff, Nat.reduceLT, ↓reduceIte, hl, e1, e6, e7, e8, e9])⟩) ?_
        rintro envg59 _ ⟨rfl, hl, e1, e6, e7, e8, e9, e54⟩
        try simp only [↓WD, W0, evalOp, Nat.reduceEqDiff, Nat.reduceLT, ↓reduceIte, reduceCtorEq, hl, e1, e6, e7, e8, e9, e54]
        obtain ⟨j110, qj110, hF⟩ := obind hF
        refine CondK_join (fun e h' => e.length = 122 ∧ e.getD 1 .undef = .ptr i1 0 ∧ e.getD 6 .undef = .str j110.1 ∧ e.getD 7 .undef = .int .i64 j110.2.1 ∧ e.getD 8 .undef = .int .i64 j110.2.2.1 ∧ e.getD 9 .undef = .int .i64 j110.2.2.2 ∧ Sep h [] h' [.blk i1 [.int .i64 e_.xAt, .int .i64 e_.xCount, .int .i64 e_.xSize, .int .i64 e_.xOffset, .str e_.xComment, .bool e_.xWide] 62]) ?_ ?_
        · refine CondK_boo (fun c60 => ?_) (fun c60 => ?_)
          · rw [if_pos c60] at qj110
            try simp only [↓WD, W0, evalOp, Nat.reduceEqDiff, Nat.reduceLT, ↓reduceIte, reduceCtorEq, hl, e1, e6, e7, e8, e9, e54]
            rw [AW_region]
            obtain ⟨y61, qy61, qj110⟩ := obind qj110
            have og62 := fun (D : Drawn) (n : Nat) (g : AH) => call_hook (P := Try.prog) (D := D) k19 n (args := [.int .u64 101075792, .int .i64 4]) (v := .str y61) ((kf_19_eq 101075792 4).trans (by rw [qy61]; rfl)) g
            obtain ⟨y63, qy63, qj110⟩ := obind qj110
            have og64 := fun (D : Drawn) (n : Nat) (g : AH) => call_hook (P := Try.prog) (D := D) k19 n (args := [.int .u64 44, .int .i64 8]) (v := .str y63) ((kf_19_eq 44 8).trans (by rw [qy63]; rfl)) g
            obtain ⟨s65, qs65, qj110⟩ := obind qj110
            have os65 := cat_str qs65
            obtain ⟨y66, qy66, qj110⟩ := obind qj110
            have og67 := fun (D : Drawn) (n : Nat) (g : AH) => call_hook (P := Try.prog) (D := D) k19 n (args := [.int .u64 45, .int .i64 2]) (v := .str y66) ((kf_19_eq 45 2).trans (by rw [qy66]; rfl)) g
            obtain ⟨s68, qs68, qj110⟩ := obind qj110
            have os68 := cat_str qs68
            have og70 := fun (D : Drawn) (n : Nat) (g : AH) => call_hook (P := Try.prog) (D := D) k19 n (args := [.int .u64 45, .int .i64 2]) (v := .str y66) ((kf_19_eq 45 2).trans (by rw [qy66]; rfl)) g
            obtain ⟨s71, qs71, qj110⟩ := obind qj110
            have os71 := cat_str qs71
            obtain ⟨y72, qy72, qj110⟩ := obind qj110
            have og73 := fun (D : Drawn) (n : Nat) (g : AH) => call_hook (P := Try.prog) (D := D) k19 n (args := [.int .u64 0, .int .i64 8]) (v := .str y72) ((kf_19_eq 0 8).trans (by rw [qy72]; rfl)) g
            obtain ⟨s74, qs74, qj110⟩ := obind qj110
            have os74 := cat_str qs74
            have oc75 := fun g : AH => aconv_int (P := Try.prog) (h := g) (n := e_.xCount) (k' := .i64) Try.underlying3 Try.underlying25
            obtain ⟨y76, qy76, qj110⟩ := obind qj110
            have og77 := fun (D : Drawn) (n : Nat) (g : AH) => call_hook (P := Try.prog) (D := D) k19 n (args := [.int .u64 (IntKind.u64.wrap e_.xCount), .int .i64 8]) (v := .str y76) ((kf_19_eq (IntKind.u64.wrap e_.xCount) 8).trans (by rw [qy76]; rfl)) g
            obtain ⟨s78, qs78, qj110⟩ := obind qj110
            have os78 := cat_str qs78
            have oc79 := fun g : AH => aconv_int (P := Try.prog) (h := g) (n := e_.xCount) (k' := .i64) Try.underlying3 Try.underlying25
            have og81 := fun (D : Drawn) (n : Nat) (g : AH) => call_hook (P := Try.prog) (D := D) k19 n (args := [.int .u64 (IntKind.u64.wrap e_.xCount), .int .i64 8]) (v := .str y76) ((kf_19_eq (IntKind.u64.wrap e_.xCount) 8).trans (by rw [qy76]; rfl)) g
            obtain ⟨s82, qs82, qj110⟩ := obind qj110
            have os82 := cat_str qs82
            have oc83 := fun g : AH => aconv_int (P := Try.prog) (h := g) (n := e_.xSize) (k' := .i64) Try.underlying3 Try.underlying25
            obtain ⟨y84, qy84, qj110⟩ := obind qj110
            have og85 := fun (D : Drawn) (n : Nat) (g : AH) => call_hook (P := Try.prog) (D := D) k19 n (args := [.int .u64 (IntKind.u64.wrap e_.xSize), .int .i64 8]) (v := .str y84) ((kf_19_eq (IntKind.u64.wrap e_.xSize) 8).trans (by rw [qy84]; rfl)) g
            obtain ⟨s86, qs86, qj110⟩ := obind qj110
            have os86 := cat_str qs86
            have oc87 := fun g : AH => aconv_int (P := Try.prog) (h := g) (n := e_.xOffset) (k' := .i64) Try.underlying3 Try.underlying25
            obtain ⟨y88, qy88, qj110⟩ := obind qj110
            have og89 := fun (D : Drawn) (n : Nat) (g : AH) => call_hook (P := Try.prog) (D := D) k19 n (args := [.int .u64 (IntKind.u64.wrap e_.xOffset), .int .i64 8]) (v := .str y88) ((kf_19_eq (IntKind.u64.wrap e_.xOffset) 8).trans (by rw [qy88]; rfl)) g
            obtain ⟨s90, qs90, qj110⟩ := obind qj110
            have os90 := cat_str qs90
            refine AE_joinR (fun e h' => h46 = h' ∧ e.length = 122 ∧ e.getD 1 .undef = .ptr i1 0 ∧ e.getD 6 .undef = .str s90) (by
              simp only [↓WE, WA, WL, aop, ofValue, ofCell, isConst, abin, acall1, abuiltin, aun, AV.cells, AV.one, Nat.reduceAdd, Int.reduceLT, Int.reduceLE, ↓WD, W0, evalOp, Nat.reduceEqDiff, Nat.reduceLT, ↓reduceIte, reduceCtorEq, hl, e1, e6, e7, e8, e9, e54, og62, og64, os65, og67, os68, og70, os71, og73, os74, oc75, og77, os78, oc79, og81, os82, oc83, og85, os86, oc87, og89, os90]
              exact ⟨rfl, (by simp only [List.length_set, hl]), (by simp only [W0, Nat.reduceEqDiff, Nat.reduceLT, ↓reduceIte, hl, e1, e6, e7, e8, e9, e54]), (by simp only [W0, Nat.reduceEqDiff, Nat.reduceLT, ↓reduceIte, hl, e1, e6, e7, e8, e9, e54])⟩) ?_
            rintro envg91 _ ⟨rfl, hl, e1, e6⟩
            try simp only [↓WD, W0, evalOp, Nat.reduceEqDiff, Nat.reduceLT, ↓reduceIte, reduceCtorEq, hl, e1, e6]
            rw [AW_drawn, AE_drawnK (Ksub.cons k19 (Ksub.cons k63 Ksub.nil)) (by kernel_rfl)]
            obtain ⟨y92, qy92, qj110⟩ := obind qj110
            have og93 := fun (cf : CallF) (g : AH) => tab_hook (cf := cf) k19 (args := [.int .u64 117853008, .int .i64 4]) (v := .str y92) ((kf_19_eq 117853008 4).trans (by rw [qy92]; rfl)) g
            obtain ⟨s94, qs94, qj110⟩ := obind qj110
            have os94 := cat_str qs94
            obtain ⟨y95, qy95, qj110⟩ := obind qj110
            have og96 := fun (cf : CallF) (g : AH) => tab_hook (cf := cf) k19 (args := [.int .u64 0, .int .i64 4]) (v := .str y95) ((kf_19_eq 0 4).trans (by rw [qy95]; rfl)) g
            obtain ⟨s97, qs97, qj110⟩ := obind qj110
            have os97 := cat_str qs97
            have ol98 := S45.load (P := Try.prog) 0 rfl (t := 3) (off := 0) (v := .int .i64 e_.xAt) (by simp only [apart, ag_3, sz_3]; rfl)
            have oc99 := fun g : AH => aconv_int (P := Try.prog) (h := g) (n := e_.xAt) (k' := .i64) Try.underlying3 Try.underlying25
            obtain ⟨y100, qy100, qj110⟩ := obind qj110
            have og101 := fun (cf : CallF) (g : AH) => tab_hook (cf := cf) k19 (args := [.int .u64 (IntKind.u64.wrap e_.xAt), .int .i64 8]) (v := .str y100) ((kf_19_eq (IntKind.u64.wrap e_.xAt) 8).trans (by rw [qy100]; rfl)) g
            obtain ⟨s102, qs102, qj110⟩ := obind qj110
            have os102 := cat_str qs102
            obtain ⟨y103, qy103, qj110⟩ := obind qj110
            have og104 := fun (cf : CallF) (g : AH) => tab_hook (cf := cf) k19 (args := [.int .u64 1, .int .i64 4]) (v := .str y103) ((kf_19_eq 1 4).trans (by rw [qy103]; rfl)) g
            obtain ⟨s105, qs105, qj110⟩ := obind qj110
            have os105 := cat_str qs105
            refine AE_joinR (fun e h' => h46 = h' ∧ e.length = 122 ∧ e.getD 1 .undef = .ptr i1 0 ∧ e.getD 6 .undef = .str s105) (by
              simp only [↓WE, WA, WL, aop, ofValue, ofCell, isConst, abin, acall1, abuiltin, aun, AV.cells, AV.one, Nat.reduceAdd, Int.reduceLT, Int.reduceLE, ↓WD, W0, evalOp, Nat.reduceEqDiff, Nat.reduceLT, ↓reduceIte, reduceCtorEq, hl, e1, e6, og93, os94, og96, os97, fa_62_0, ol98, oc99, og101, os102, og104, os105]
              exact ⟨rfl, (by simp only [List.length_set, hl]), (by simp only [W0, Nat.reduceEqDiff, Nat.reduceLT, ↓reduceIte, hl, e1, e6]), (by simp only [W0, Nat.reduceEqDiff, Nat.reduceLT, ↓reduceIte, hl, e1, e6])⟩) ?_
            rintro envg106 _ ⟨rfl, hl, e1, e6⟩
            try simp only [↓WD, W0, evalOp, Nat.reduceEqDiff, Nat.reduceLT, ↓reduceIte, reduceCtorEq, hl, e1, e6]
            rw [AW_region]
            refine AE_joinR (fun e h' => h46 = h' ∧ e.length = 122 ∧ e.getD 1 .undef = .ptr i1 0 ∧ e.getD 6 .undef = .str s105 ∧ e.getD 7 .undef = .int .i64 65535) (by
              simp only [↓WE, WA, WL, aop, ofValue, ofCell, isConst, abin, acall1, abuiltin, aun, AV.cells, AV.one, Nat.reduceAdd, Int.reduceLT, Int.reduceLE, ↓WD, W0, evalOp, Nat.reduceEqDiff, Nat.reduceLT, ↓reduceIte, reduceCtorEq, hl, e1, e6]
              exact ⟨rfl, (by simp only [List.length_set, hl]), (by simp only [W0, Nat.reduceEqDiff, Nat.reduceLT, ↓reduceIte, hl, e1, e6]), (by simp only [W0, Nat.reduceEqDiff, Nat.reduceLT, ↓reduceIte, hl, e1, e6]), (by simp only [W0, Nat.reduceEqDiff, Nat.reduceLT, ↓reduceIte, hl, e1, e6])⟩) ?_
            rintro envg107 _ ⟨rfl, hl, e1, e6, e7⟩
            try simp only [↓WD, W0, evalOp, Nat.reduceEqDiff, Nat.reduceLT, ↓reduceIte, reduceCtorEq, hl, e1, e6, e7]
            rw [AW_region]
            refine AE_joinR (fun e h' => h46 = h' ∧ e.length = 122 ∧ e.getD 1 .undef = .ptr i1 0 ∧ e.getD 6 .undef = .str s105 ∧ e.getD 7 .undef = .int .i64 65535 ∧ e.getD 8 .undef = .int .i64 4294967295) (by
              simp only [↓WE, WA, WL, aop, ofValue, ofCell, isConst, abin, acall1, abuiltin, aun, AV.cells, AV.one, Nat.reduceAdd, Int.reduceLT, Int.reduceLE, ↓WD, W0, evalOp, Nat.reduceEqDiff, Nat.reduceLT, ↓reduceIte, reduceCtorEq, hl, e1, e6, e7]
              exact ⟨rfl, (by simp only [List.length_set, hl]), (by simp only [W0, Nat.reduceEqDiff, Nat.reduceLT, ↓reduceIte, hl, e1, e6, e7]), (by simp only [W0, Nat.reduceEqDiff, Nat.reduceLT, ↓reduceIte, hl, e1, e6, e7]), (by simp only [W0, Nat.reduceEqDiff, Nat.reduceLT, ↓reduceIte, hl, e1, e6, e7]), (by simp only [W0, Nat.reduceEqDiff, Nat.reduceLT, ↓reduceIte, hl, e1, e6, e7])⟩) ?_
            rintro envg108 _ ⟨rfl, hl, e1, e6, e7, e8⟩
            try simp only [↓WD, W0, evalOp, Nat.reduceEqDiff, Nat.reduceLT, ↓reduceIte, reduceCtorEq, hl, e1, e6, e7, e8]
            rw [AW_region]
            refine AE_joinR (fun e h' => h46 = h' ∧ e.length = 122 ∧ e.getD 1 .undef = .ptr i1 0 ∧ e.getD 6 .undef = .str s105 ∧ e.getD 7 .undef = .int .i64 65535 ∧ e.getD 8 .undef = .int .i64 4294967295 ∧ e.getD 9 .undef = .int .i64 4294967295) (by
              simp only [↓WE, WA, WL, aop, ofValue, ofCell, isConst, abin, acall1, abuiltin, aun, AV.cells, AV.one, Nat.reduceAdd, Int.reduceLT, Int.reduceLE, ↓WD, W0, evalOp, Nat.reduceEqDiff, Nat.reduceLT, ↓reduceIte, reduceCtorEq, hl, e1, e6, e7, e8]
              exact ⟨rfl, (by simp only [List.length_set, hl]), (by simp only [W0, Nat.reduceEqDiff, Nat.reduceLT, ↓reduceIte, hl, e1, e6, e7, e8]), (by simp only [W0, Nat.reduceEqDiff, Nat.reduceLT, ↓reduceIte, hl, e1, e6, e7, e8]), (by simp only [W0, Nat.reduceEqDiff, Nat.reduceLT, ↓reduceIte, hl, e1, e6, e7, e8]), (by simp only [W0, Nat.reduceEqDiff, Nat.reduceLT, ↓reduceIte, hl, e1, e6, e7, e8]), (by simp only [W0, Nat.reduceEqDiff, Nat.reduceLT, ↓reduceIte, hl, e1, e6, e7, e8])⟩) ?_
            rintro envg109 _ ⟨rfl, hl, e1, e6, e7, e8, e9⟩
            try simp only [↓WD, W0, evalOp, Nat.reduceEqDiff, Nat.reduceLT, ↓reduceIte, reduceCtorEq, hl, e1, e6, e7, e8, e9]
            rw [KP_nil, KJ_normal]
            obtain rfl := Option.some.inj qj110
            exact ⟨(by simp only [List.length_set, hl]), (by simp only [W0, Nat.reduceEqDiff, Nat.reduceLT, ↓reduceIte, hl, e1, e6, e7, e8, e9]), (by simp only [W0, Nat.reduceEqDiff, Nat.reduceLT, ↓reduceIte, hl, e1, e6, e7, e8, e9]), (by simp only [W0, Nat.reduceEqDiff, Nat.reduceLT, ↓reduceIte, hl, e1, e6, e7, e8, e9]), (by simp only [W0, Nat.reduceEqDiff, Nat.reduceLT, ↓reduceIte, hl, e1, e6, e7, e8, e9]), (by simp only [W0, Nat.reduceEqDiff, Nat.reduceLT, ↓reduceIte, hl, e1, e6, e7, e8, e9]), S45⟩
          · rw [if_neg (nf c60)] at qj110
            try simp only [↓WD, W0, evalOp, Nat.reduceEqDiff, Nat.reduceLT, ↓reduceIte, reduceCtorEq, hl, e1, e6, e7, e8, e9, e54]
            rw [KP_nil, KJ_normal]
            obtain rfl := Option.some.inj qj110
            exact ⟨(by simp only [List.length_set, hl]), (by simp only [W0, Nat.reduceEqDiff, Nat.reduceLT, ↓reduceIte, hl, e1, e6, e7, e8, e9, e54]), (by simp only [W0, Nat.reduceEqDiff, Nat.reduceLT, ↓reduceIte, hl, e1, e6, e7, e8, e9, e54]), (by simp only [W0, Nat.reduceEqDiff, Nat.reduceLT, ↓reduceIte, hl, e1, e6, e7, e8, e9, e54]), (by simp only [W0, Nat.reduceEqDiff, Nat.reduceLT, ↓reduceIte, hl, e1, e6, e7, e8, e9, e54]), (by simp only [W0, Nat.reduceEqDiff, Nat.reduceLT, ↓reduceIte, hl, e1, e6, e7, e8, e9, e54]), S45⟩
        · rintro envj110 h112 ⟨hl, e1, e6, e7, e8, e9, S111⟩
          try simp only [↓WD, W0, evalOp, Nat.reduceEqDiff, Nat.reduceLT, ↓reduceIte, reduceCtorEq, hl, e1, e6, e7, e8, e9]
          rw [AW_drawn, AE_drawnK (Ksub.cons k19 (Ksub.cons k63 Ksub.nil)) (by kernel_rfl)]
          obtain ⟨y113, qy113, hF⟩ := obind hF
          have og114 := fun (cf : CallF) (g : AH) => tab_hook (cf := cf) k19 (args := [.int .u64 101010256, .int .i64 4]) (v := .str y113) ((kf_19_eq 101010256 4).trans (by rw [qy113]; rfl)) g
          obtain ⟨s115, qs115, hF⟩ := obind hF
          have os115 := cat_str qs115
          obtain ⟨y116, qy116, hF⟩ := obind hF
          have og117 := fun (cf : CallF) (g : AH) => tab_hook (cf := cf) k19 (args := [.int .u64 0, .int .i64 4]) (v := .str y116) ((kf_19_eq 0 4).trans (by rw [qy116]; rfl)) g
          obtain ⟨s118, qs118, hF⟩ := obind hF
          have os118 := cat_str qs118
          have oc119 := fun g : AH => aconv_int (P := Try.prog) (h := g) (n := j110.2.1) (k' := .i64) Try.underlying3 Try.underlying25
          obtain ⟨y120, qy120, hF⟩ := obind hF
          have og121 := fun (cf : CallF) (g : AH) => tab_hook (cf := cf) k19 (args := [.int .u64 (IntKind.u64.wrap j110.2.1), .int .i64 2]) (v := .str y120) ((kf_19_eq (IntKind.u64.wrap j110.2.1) 2).trans (by rw [qy120]; rfl)) g
          obtain ⟨s122, qs122, hF⟩ := obind hF
          have os122 := cat_str qs122
          have oc123 := fun g : AH => aconv_int (P := Try.prog) (h := g) (n := j110.2.1) (k' := .i64) Try.underlying3 Try.underlying25
          have og125 := fun (cf : CallF) (g : AH) => tab_hook (cf := cf) k19 (args := [.int .u64 (IntKind.u64.wrap j110.2.1), .int .i64 2]) (v := .str y120) ((kf_19_eq (IntKind.u64.wrap j110.2.1) 2).trans (by rw [qy120]; rfl)) g
          obtain ⟨s126, qs126, hF⟩ := obind hF
          have os126 := cat_str qs126
          have oc127 := fun g : AH => aconv_int (P := Try.prog) (h := g) (n := j110.2.2.1) (k' := .i64) Try.underlying3 Try.underlying25
          obtain ⟨y128, qy128, hF⟩ := obind hF
          have og129 := fun (cf : CallF) (g : AH) => tab_hook (cf := cf) k19 (args := [.int .u64 (IntKind.u64.wrap j110.2.2.1), .int .i64 4]) (v := .str y128) ((kf_19_eq (IntKind.u64.wrap j110.2.2.1) 4).trans (by rw [qy128]; rfl)) g
          obtain ⟨s130, qs130, hF⟩ := obind hF
          have os130 := cat_str qs130
          have oc131 := fun g : AH => aconv_int (P := Try.prog) (h := g) (n := j110.2.2.2) (k' := .i64) Try.underlying3 Try.underlying25
          obtain ⟨y132, qy132, hF⟩ := obind hF
          have og133 := fun (cf : CallF) (g : AH) => tab_hook (cf := cf) k19 (args := [.int .u64 (IntKind.u64.wrap j110.2.2.2), .int .i64 4]) (v := .str y132) ((kf_19_eq (IntKind.u64.wrap j110.2.2.2) 4).trans (by rw [qy132]; rfl)) g
          obtain ⟨s134, qs134, hF⟩ := obind hF
          have os134 := cat_str qs134
          have ol135 := S111.load (P := Try.prog) 0 rfl (t := 9) (off := 4) (v := .str e_.xComment) (by simp only [apart, ag_9, sz_9]; rfl)
          have ol136 := fun g : AH => alen_str (P := Try.prog) (h := g) (l := e_.xComment) Try.underlying9
          have oc137 := fun g : AH => aconv_int (P := Try.prog) (h := g) (n := (e_.xComment.length : Int)) (k' := .i64) Try.underlying3 Try.underlying25
          obtain ⟨y138, qy138, hF⟩ := obind hF
          have og139 := fun (cf : CallF) (g : AH) => tab_hook (cf := cf) k19 (args := [.int .u64 (IntKind.u64.wrap (e_.xComment.length : Int)), .int .i64 2]) (v := .str y138) ((kf_19_eq (IntKind.u64.wrap (e_.xComment.length : Int)) 2).trans (by rw [qy138]; rfl)) g
          obtain ⟨s140, qs140, hF⟩ := obind hF
          have os140 := cat_str qs140
          have ol141 := S111.load (P := Try.prog) 0 rfl (t := 9) (off := 4) (v := .str e_.xComment) (by simp only [apart, ag_9, sz_9]; rfl)
          obtain ⟨s142, qs142, hF⟩ := obind hF
          have os142 := cat_str qs142
          refine AE_joinR (fun e h' => h112 = h' ∧ e.length = 122 ∧ e.getD 2 .undef = .str s142 ∧ e.getD 3 .undef = .int .i64 0) (by
            simp only [↓WE, WA, WL, aop, ofValue, ofCell, isConst, abin, acall1, abuiltin, aun, AV.cells, AV.one, Nat.reduceAdd, Int.reduceLT, Int.reduceLE, ↓WD, W0, evalOp, Nat.reduceEqDiff, Nat.reduceLT, ↓reduceIte, reduceCtorEq, hl, e1, e6, e7, e8, e9, og114, os115, og117, os118, oc119, og121, os122, oc123, og125, os126, oc127, og129, os130, oc131, og133, os134, fa_62_4, ol135, ol136, oc137, og139, os140, ol141, os142]
            exact ⟨rfl, (by simp only [List.length_set, hl]), (by simp only [W0, Nat.reduceEqDiff, Nat.reduceLT, ↓reduceIte, hl, e1, e6, e7, e8, e9]), (by simp only [W0, Nat.reduceEqDiff, Nat.reduceLT, ↓reduceIte, hl, e1, e6, e7, e8, e9])⟩) ?_
          rintro envg143 _ ⟨rfl, hl, e2, e3⟩
          try simp only [↓WD, W0, evalOp, Nat.reduceEqDiff, Nat.reduceLT, ↓reduceIte, reduceCtorEq, hl, e2, e3]
          refine KP_ret (vs := [.str s142, .int .i64 0]) (by simp only [aresults, aresult, gs, List.length_set, Nat.reduceEqDiff, Nat.reduceLT, ↓reduceIte, hl, e2, e3]) ?_
          obtain rfl := Option.some.inj hF
          exact rfl
end Go.Proofs.YtikkpmmhejjpaaaM
