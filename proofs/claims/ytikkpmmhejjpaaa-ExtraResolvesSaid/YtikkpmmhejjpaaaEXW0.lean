/- The abstract machine computes what the plain functions say: printed by lift.py. -/
import Derived.Test.YtikkpmmhejjpaaaEXT
set_option linter.unusedSimpArgs false
set_option linter.unusedVariables false
namespace Go.Proofs.YtikkpmmhejjpaaaM
open Go Go.RowKit
set_option maxRecDepth 100000 in
set_option maxHeartbeats 4000000 in
theorem W_field_Cut {K : PureK} (n47 : K 47 = none) (m : Nat) (hm : NF + 1 ≤ m) (h : AH) (s_ : List UInt8) (at_ : Int) (n_ : Int) {r : (List UInt8) × Int} (hF : F_field_Cut s_ at_ n_ = some r) :
    AR (acall Try.prog (hooksOf K) (drawnOf Try.prog (tabOf K)) m 47 [.str s_, .int .i64 at_, .int .i64 n_] h) (fun v h' => v = .tup [.str r.1, .int .i64 r.2]) := by
  obtain ⟨m, rfl⟩ : ∃ k, m = k + 1 := ⟨m - 1, by omega⟩
  refine AR_call (hooksOf_none n47) Try.func47 rfl _ _ fun env hl he => ?_
  have e0 := he 0
  have e1 := he 1
  have e2 := he 2
  simp only [List.getD_cons_zero, List.getD_cons_succ] at e0 e1 e2
  simp only [Try.f47] at hl ⊢
  simp only [List.length_cons, List.length_nil, Nat.reduceAdd, Nat.reduceSub] at hl
  clear he
  have S0 : Sep h [] h [] := Sep.nil h
  rw [F_field_Cut] at hF
  try simp only [↓WD, W0, evalOp, Nat.reduceEqDiff, Nat.reduceLT, ↓reduceIte, reduceCtorEq, hl, e0, e1, e2]
  rw [AW_region]
  refine AE_joinR (fun e h' => h = h' ∧ e.length = 34 ∧ e.getD 0 .undef = .str s_ ∧ e.getD 1 .undef = .int .i64 at_ ∧ e.getD 2 .undef = .int .i64 n_) (by
    simp only [↓WE, WA, WL, aop, ofValue, ofCell, isConst, abin, acall1, abuiltin, aun, AV.cells, AV.one, Nat.reduceAdd, Int.reduceLT, Int.reduceLE, ↓WD, W0, evalOp, Nat.reduceEqDiff, Nat.reduceLT, ↓reduceIte, reduceCtorEq, hl, e0, e1, e2]
    exact ⟨rfl, (by simp only [List.length_set, hl]), (by simp only [W0, Nat.reduceEqDiff, Nat.reduceLT, ↓reduceIte, hl, e0, e1, e2]), (by simp only [W0, Nat.reduceEqDiff, Nat.reduceLT, ↓reduceIte, hl, e0, e1, e2]), (by simp only [W0, Nat.reduceEqDiff, Nat.reduceLT, ↓reduceIte, hl, e0, e1, e2])⟩) ?_
  rintro envg1 _ ⟨rfl, hl, e0, e1, e2⟩
  try simp only [↓WD, W0, evalOp, Nat.reduceEqDiff, Nat.reduceLT, ↓reduceIte, reduceCtorEq, hl, e0, e1, e2]
  rw [AW_region]
  obtain ⟨j13, qj13, hF⟩ := obind hF
  refine AE_joinR (fun e h' => e.length = 34 ∧ e.getD 0 .undef = .str s_ ∧ e.getD 1 .undef = .int .i64 at_ ∧ e.getD 2 .undef = .int .i64 n_ ∧ e.getD 27 .undef = .bool j13 ∧ Sep h [] h' []) ?_ ?_
  · simp only [↓WE, WA, WL, aop, ofValue, ofCell, isConst, abin, acall1, abuiltin, aun, AV.cells, AV.one, Nat.reduceAdd, Int.reduceLT, Int.reduceLE, ↓WD, W0, evalOp, Nat.reduceEqDiff, Nat.reduceLT, ↓reduceIte, reduceCtorEq, hl, e0, e1, e2]
    refine GuardW_dec (fun c2 => ?_) (fun c2 => ?_)
    · rw [if_pos c2] at qj13
      have d3 : (decide (at_ < 0)) = true := decide_eq_true c2
      simp only [↓WE, WA, WL, aop, ofValue, ofCell, isConst, abin, acall1, abuiltin, aun, AV.cells, AV.one, Nat.reduceAdd, Int.reduceLT, Int.reduceLE, ↓WD, W0, evalOp, Nat.reduceEqDiff, Nat.reduceLT, ↓reduceIte, reduceCtorEq, hl, e0, e1, e2, d3]
      obtain rfl := Option.some.inj qj13
      exact ⟨(by simp only [List.length_set, hl]), (by simp only [W0, Nat.reduceEqDiff, Nat.reduceLT, ↓reduceIte, hl, e0, e1, e2]), (by simp only [W0, Nat.reduceEqDiff, Nat.reduceLT, ↓reduceIte, hl, e0, e1, e2]), (by simp only [W0, Nat.reduceEqDiff, Nat.reduceLT, ↓reduceIte, hl, e0, e1, e2]), (by simp only [W0, Nat.reduceEqDiff, Nat.reduceLT, ↓reduceIte, hl, e0, e1, e2]), S0⟩
    · rw [if_neg c2] at qj13
      have d4 : (decide (at_ < 0)) = false := decide_eq_false c2
      simp only [↓WE, WA, WL, aop, ofValue, ofCell, isConst, abin, acall1, abuiltin, aun, AV.cells, AV.one, Nat.reduceAdd, Int.reduceLT, Int.reduceLE, ↓WD, W0, evalOp, Nat.reduceEqDiff, Nat.reduceLT, ↓reduceIte, reduceCtorEq, hl, e0, e1, e2, d4]
      refine GuardW_dec (fun c5 => ?_) (fun c5 => ?_)
      · rw [if_pos c5] at qj13
        have d6 : (decide (n_ < 0)) = true := decide_eq_true c5
        simp only [↓WE, WA, WL, aop, ofValue, ofCell, isConst, abin, acall1, abuiltin, aun, AV.cells, AV.one, Nat.reduceAdd, Int.reduceLT, Int.reduceLE, ↓WD, W0, evalOp, Nat.reduceEqDiff, Nat.reduceLT, ↓reduceIte, reduceCtorEq, hl, e0, e1, e2, d4, d6]
        obtain rfl := Option.some.inj qj13
        exact ⟨(by simp only [List.length_set, hl]), (by simp only [W0, Nat.reduceEqDiff, Nat.reduceLT, ↓reduceIte, hl, e0, e1, e2]), (by simp only [W0, Nat.reduceEqDiff, Nat.reduceLT, ↓reduceIte, hl, e0, e1, e2]), (by simp only [W0, Nat.reduceEqDiff, Nat.reduceLT, ↓reduceIte, hl, e0, e1, e2]), (by simp only [W0, Nat.reduceEqDiff, Nat.reduceLT, ↓reduceIte, hl, e0, e1, e2]), S0⟩
      · rw [if_neg c5] at qj13
        have d7 : (decide (n_ < 0)) = false := decide_eq_false c5
        have ol8 := fun g : AH => alen_str (P := Try.prog) (h := g) (l := s_) Try.underlying9
        simp only [↓WE, WA, WL, aop, ofValue, ofCell, isConst, abin, acall1, abuiltin, aun, AV.cells, AV.one, Nat.reduceAdd, Int.reduceLT, Int.reduceLE, ↓WD, W0, evalOp, Nat.reduceEqDiff, Nat.reduceLT, ↓reduceIte, reduceCtorEq, hl, e0, e1, e2, ol8, d4, d7]
        refine GuardW_dec (fun c9 => ?_) (fun c9 => ?_)
        · rw [if_pos c9] at qj13
          have d10 : (decide (at_ > (s_.length : Int))) = true := decide_eq_true c9
          simp only [↓WE, WA, WL, aop, ofValue, ofCell, isConst, abin, acall1, abuiltin, aun, AV.cells, AV.one, Nat.reduceAdd, Int.reduceLT, Int.reduceLE, ↓WD, W0, evalOp, Nat.reduceEqDiff, Nat.reduceLT, ↓reduceIte, reduceCtorEq, hl, e0, e1, e2, ol8, d4, d7, d10]
          obtain rfl := Option.some.inj qj13
          exact ⟨(by simp only [List.length_set, hl]), (by simp only [W0, Nat.reduceEqDiff, Nat.reduceLT, ↓reduceIte, hl, e0, e1, e2]), (by simp only [W0, Nat.reduceEqDiff, Nat.reduceLT, ↓reduceIte, hl, e0, e1, e2]), (by simp only [W0, Nat.reduceEqDiff, Nat.reduceLT, ↓reduceIte, hl, e0, e1, e2]), (by simp only [W0, Nat.reduceEqDiff, Nat.reduceLT, ↓reduceIte, hl, e0, e1, e2]), S0⟩
        · rw [if_neg c9] at qj13
          have d11 : (decide (at_ > (s_.length : Int))) = false := decide_eq_false c9
          have ol12 := fun g : AH => alen_str (P := Try.prog) (h := g) (l := s_) Try.underlying9
          simp only [↓WE, WA, WL, aop, ofValue, ofCell, isConst, abin, acall1, abuiltin, aun, AV.cells, AV.one, Nat.reduceAdd, Int.reduceLT, Int.reduceLE, ↓WD, W0, evalOp, Nat.reduceEqDiff, Nat.reduceLT, ↓reduceIte, reduceCtorEq, hl, e0, e1, e2, ol8, ol12, d4, d7, d11]
          obtain rfl := Option.some.inj qj13
          exact ⟨(by simp only [List.length_set, hl]), (by simp only [W0, Nat.reduceEqDiff, Nat.reduceLT, ↓reduceIte, hl, e0, e1, e2]), (by simp only [W0, Nat.reduceEqDiff, Nat.reduceLT, ↓reduceIte, hl, e0, e1, e2]), (by simp only [W0, Nat.reduceEqDiff, Nat.reduceLT, ↓reduceIte, hl, e0, e1, e2]), (by simp only [W0, Nat.reduceEqDiff, Nat.reduceLT, ↓reduceIte, hl, e0, e1, e2]), S0⟩
  · rintro envj13 h15 ⟨hl, e0, e1, e2, e27, S14⟩
    try simp only [↓WD, W0, evalOp, Nat.reduceEqDiff, Nat.reduceLT, ↓reduceIte, reduceCtorEq, hl, e0, e1, e2, e27]
    refine CondK_boo (fun c18 => ?_) (fun c18 => ?_)
    · rw [if_pos c18] at hF
      try simp only [↓WD, W0, evalOp, Nat.reduceEqDiff, Nat.reduceLT, ↓reduceIte, reduceCtorEq, hl, e0, e1, e2, e27]
      rw [AW_region]
      refine AE_joinR (fun e h' => h15 = h' ∧ e.length = 34 ∧ e.getD 6 .undef = .str [] ∧ e.getD 7 .undef = .int .i64 3) (by
        simp only [↓WE, WA, WL, aop, ofValue, ofCell, isConst, abin, acall1, abuiltin, aun, AV.cells, AV.one, Nat.reduceAdd, Int.reduceLT, Int.reduceLE, ↓WD, W0, evalOp, Nat.reduceEqDiff, Nat.reduceLT, ↓reduceIte, reduceCtorEq, hl, e0, e1, e2, e27]
        exact ⟨rfl, (by simp only [List.length_set, hl]), (by simp only [W0, Nat.reduceEqDiff, Nat.reduceLT, ↓reduceIte, hl, e0, e1, e2, e27]), (by simp only [W0, Nat.reduceEqDiff, Nat.reduceLT, ↓reduceIte, hl, e0, e1, e2, e27])⟩) ?_
      rintro envg19 _ ⟨rfl, hl, e6, e7⟩
      try simp only [↓WD, W0, evalOp, Nat.reduceEqDiff, Nat.reduceLT, ↓reduceIte, reduceCtorEq, hl, e6, e7]
      refine KP_ret (vs := [.str [], .int .i64 3]) (by simp only [aresults, aresult, gs, List.length_set, Nat.reduceEqDiff, Nat.reduceLT, ↓reduceIte, hl, e6, e7]) ?_
      obtain rfl := Option.some.inj hF
      exact rfl
    · rw [if_neg (nf c18)] at hF
      try simp only [↓WD, W0, evalOp, Nat.reduceEqDiff, Nat.reduceLT, ↓reduceIte, reduceCtorEq, hl, e0, e1, e2, e27]
      rw [AW_region]
      obtain ⟨s20, qs20, hF⟩ := obind hF
      have os20 := fun g : AH => sub_str (P := Try.prog) (h := g) (k := .i64) (k' := .i64) Try.underlying9 qs20
      refine AE_joinR (fun e h' => h15 = h' ∧ e.length = 34 ∧ e.getD 6 .undef = .str s20 ∧ e.getD 7 .undef = .int .i64 0) (by
        simp only [↓WE, WA, WL, aop, ofValue, ofCell, isConst, abin, acall1, abuiltin, aun, AV.cells, AV.one, Nat.reduceAdd, Int.reduceLT, Int.reduceLE, ↓WD, W0, evalOp, Nat.reduceEqDiff, Nat.reduceLT, ↓reduceIte, reduceCtorEq, hl, e0, e1, e2, e27, os20]
        exact ⟨rfl, (by simp only [List.length_set, hl]), (by simp only [W0, Nat.reduceEqDiff, Nat.reduceLT, ↓reduceIte, hl, e0, e1, e2, e27]), (by simp only [W0, Nat.reduceEqDiff, Nat.reduceLT, ↓reduceIte, hl, e0, e1, e2, e27])⟩) ?_
      rintro envg21 _ ⟨rfl, hl, e6, e7⟩
      try simp only [↓WD, W0, evalOp, Nat.reduceEqDiff, Nat.reduceLT, ↓reduceIte, reduceCtorEq, hl, e6, e7]
      refine KP_ret (vs := [.str s20, .int .i64 0]) (by simp only [aresults, aresult, gs, List.length_set, Nat.reduceEqDiff, Nat.reduceLT, ↓reduceIte, hl, e6, e7]) ?_
      obtain rfl := Option.some.inj hF
      exact rfl
set_option maxRecDepth 100000 in
set_option maxHeartbeats 4000000 in
theorem W_field_number {K : PureK} (k47 : K 47 = some kf_47) (n46 : K 46 = none) (m : Nat) (hm : NF + 1 ≤ m) (h : AH) (s_ : List UInt8) (at_ : Int) (n_ : Int) {r : Int × Int} (hF : F_field_number s_ at_ n_ = some r) :
    AR (acall Try.prog (hooksOf K) (drawnOf Try.prog (tabOf K)) m 46 [.str s_, .int .i64 at_, .int .i64 n_] h) (fun v h' => v = .tup [.int .u64 r.1, .int .i64 r.2]) := by
  obtain ⟨m, rfl⟩ : ∃ k, m = k + 1 := ⟨m - 1, by omega⟩
  refine AR_call (hooksOf_none n46) Try.func46 rfl _ _ fun env hl he => ?_
  have e0 := he 0
  have e1 := he 1
  have e2 := he 2
  simp only [List.getD_cons_zero, List.getD_cons_succ] at e0 e1 e2
  simp only [Try.f46] at hl ⊢
  simp only [List.length_cons, List.length_nil, Nat.reduceAdd, Nat.reduceSub] at hl
  clear he
  have S0 : Sep h [] h [] := Sep.nil h
  rw [F_field_number] at hF
  try simp only [↓WD, W0, evalOp, Nat.reduceEqDiff, Nat.reduceLT, ↓reduceIte, reduceCtorEq, hl, e0, e1, e2]
  rw [AW_region]
  refine AE_joinR (fun e h' => h = h' ∧ e.length = 36 ∧ e.getD 0 .undef = .str s_ ∧ e.getD 1 .undef = .int .i64 at_ ∧ e.getD 2 .undef = .int .i64 n_) (by
    simp only [↓WE, WA, WL, aop, ofValue, ofCell, isConst, abin, acall1, abuiltin, aun, AV.cells, AV.one, Nat.reduceAdd, Int.reduceLT, Int.reduceLE, ↓WD, W0, evalOp, Nat.reduceEqDiff, Nat.reduceLT, ↓reduceIte, reduceCtorEq, hl, e0, e1, e2]
    exact ⟨rfl, (by simp only [List.length_set, hl]), (by simp only [W0, Nat.reduceEqDiff, Nat.reduceLT, ↓reduceIte, hl, e0, e1, e2]), (by simp only [W0, Nat.reduceEqDiff, Nat.reduceLT, ↓reduceIte, hl, e0, e1, e2]), (by simp only [W0, Nat.reduceEqDiff, Nat.reduceLT, ↓reduceIte, hl, e0, e1, e2])⟩) ?_
  rintro envg1 _ ⟨rfl, hl, e0, e1, e2⟩
  try simp only [↓WD, W0, evalOp, Nat.reduceEqDiff, Nat.reduceLT, ↓reduceIte, reduceCtorEq, hl, e0, e1, e2]
  rw [AW_region]
  obtain ⟨y2, qy2, hF⟩ := obind hF
  have og3 := fun (D : Drawn) (n : Nat) (g : AH) => call_hook (P := Try.prog) (D := D) k47 n (args := [.str s_, .int .i64 at_, .int .i64 n_]) (v := .tup [.str y2.1, .int .i64 y2.2]) ((kf_47_eq s_ at_ n_).trans (by rw [qy2]; rfl)) g
  refine AE_joinR (fun e h' => h = h' ∧ e.length = 36 ∧ e.getD 8 .undef = .str y2.1 ∧ e.getD 9 .undef = .int .i64 y2.2) (by
    simp only [↓WE, WA, WL, aop, ofValue, ofCell, isConst, abin, acall1, abuiltin, aun, AV.cells, AV.one, Nat.reduceAdd, Int.reduceLT, Int.reduceLE, ↓WD, W0, evalOp, Nat.reduceEqDiff, Nat.reduceLT, ↓reduceIte, reduceCtorEq, hl, e0, e1, e2, og3]
    exact ⟨rfl, (by simp only [List.length_set, hl]), (by simp only [W0, Nat.reduceEqDiff, Nat.reduceLT, ↓reduceIte, hl, e0, e1, e2]), (by simp only [W0, Nat.reduceEqDiff, Nat.reduceLT, ↓reduceIte, hl, e0, e1, e2])⟩) ?_
  rintro envg4 _ ⟨rfl, hl, e8, e9⟩
  try simp only [↓WD, W0, evalOp, Nat.reduceEqDiff, Nat.reduceLT, ↓reduceIte, reduceCtorEq, hl, e8, e9]
  rw [AW_region]
  refine AE_joinR (fun e h' => h = h' ∧ e.length = 36 ∧ e.getD 8 .undef = .str y2.1 ∧ e.getD 9 .undef = .int .i64 y2.2 ∧ e.getD 10 .undef = .int .u64 0) (by
    simp only [↓WE, WA, WL, aop, ofValue, ofCell, isConst, abin, acall1, abuiltin, aun, AV.cells, AV.one, Nat.reduceAdd, Int.reduceLT, Int.reduceLE, ↓WD, W0, evalOp, Nat.reduceEqDiff, Nat.reduceLT, ↓reduceIte, reduceCtorEq, hl, e8, e9]
    exact ⟨rfl, (by simp only [List.length_set, hl]), (by simp only [W0, Nat.reduceEqDiff, Nat.reduceLT, ↓reduceIte, hl, e8, e9]), (by simp only [W0, Nat.reduceEqDiff, Nat.reduceLT, ↓reduceIte, hl, e8, e9]), (by simp only [W0, Nat.reduceEqDiff, Nat.reduceLT, ↓reduceIte, hl, e8, e9])⟩) ?_
  rintro envg5 _ ⟨rfl, hl, e8, e9, e10⟩
  try simp only [↓WD, W0, evalOp, Nat.reduceEqDiff, Nat.reduceLT, ↓reduceIte, reduceCtorEq, hl, e8, e9, e10]
  rw [AW_region]
  have ol6 := fun g : AH => alen_str (P := Try.prog) (h := g) (l := y2.1) Try.underlying9
  refine AE_joinR (fun e h' => h = h' ∧ e.length = 36 ∧ e.getD 8 .undef = .str y2.1 ∧ e.getD 9 .undef = .int .i64 y2.2 ∧ e.getD 10 .undef = .int .u64 0 ∧ e.getD 20 .undef = .int .i64 (y2.1.length : Int) ∧ e.getD 21 .undef = .int .i64 0) (by
    simp only [↓WE, WA, WL, aop, ofValue, ofCell, isConst, abin, acall1, abuiltin, aun, AV.cells, AV.one, Nat.reduceAdd, Int.reduceLT, Int.reduceLE, ↓WD, W0, evalOp, Nat.reduceEqDiff, Nat.reduceLT, ↓reduceIte, reduceCtorEq, hl, e8, e9, e10, ol6]
    exact ⟨rfl, (by simp only [List.length_set, hl]), (by simp only [W0, Nat.reduceEqDiff, Nat.reduceLT, ↓reduceIte, hl, e8, e9, e10]), (by simp only [W0, Nat.reduceEqDiff, Nat.reduceLT, ↓reduceIte, hl, e8, e9, e10]), (by simp only [W0, Nat.reduceEqDiff, Nat.reduceLT, ↓reduceIte, hl, e8, e9, e10]), (by simp only [W0, Nat.reduceEqDiff, Nat.reduceLT, ↓reduceIte, hl, e8, e9, e10]), (by simp only [W0, Nat.reduceEqDiff, Nat.reduceLT, ↓reduceIte, hl, e8, e9, e10])⟩) ?_
  rintro envg7 _ ⟨rfl, hl, e8, e9, e10, e20, e21⟩
  try simp only [↓WD, W0, evalOp, Nat.reduceEqDiff, Nat.reduceLT, ↓reduceIte, reduceCtorEq, hl, e8, e9, e10, e20, e21]
  obtain ⟨r30, qr30, hF⟩ := obind hF
  refine AW_lift (L_field_number_1 y2) (fun s e h' => e.length = 36 ∧ e.getD 8 .undef = .str y2.1 ∧ e.getD 9 .undef = .int .i64 y2.2 ∧ e.getD 10 .undef = .int .u64 s.1 ∧ e.getD 20 .undef = .int .i64 (y2.1.length : Int) ∧ e.getD 21 .undef = .int .i64 s.2 ∧ Sep h [] h' []) (fun r30 x e h' => x = .exit 0 ∧ e.length = 36 ∧ e.getD 9 .undef = .int .i64 y2.2 ∧ e.getD 10 .undef = .int .u64 r30 ∧ Sep h [] h' []) qr30 (by omega) ?_ ?_ ?_
  · rintro s envr30 h19 or30 ⟨hl, e8, e9, e10, e20, e21, S20⟩ wr30
    rw [L_field_number_1] at wr30
    try simp only [↓WD, W0, evalOp, Nat.reduceEqDiff, Nat.reduceLT, ↓reduceIte, reduceCtorEq, hl, e8, e9, e10, e20, e21]
    rw [AW_region]
    refine AE_joinR (fun e h' => h19 = h' ∧ e.length = 36 ∧ e.getD 8 .undef = .str y2.1 ∧ e.getD 9 .undef = .int .i64 y2.2 ∧ e.getD 10 .undef = .int .u64 s.1 ∧ e.getD 20 .undef = .int .i64 (y2.1.length : Int) ∧ e.getD 21 .undef = .int .i64 s.2 ∧ e.getD 22 .undef = .bool (decide (s.2 < (y2.1.length : Int)))) (by
      simp only [↓WE, WA, WL, aop, ofValue, ofCell, isConst, abin, acall1, abuiltin, aun, AV.cells, AV.one, Nat.reduceAdd, Int.reduceLT, Int.reduceLE, ↓WD, W0, evalOp, Nat.reduceEqDiff, Nat.reduceLT, ↓reduceIte, reduceCtorEq, hl, e8, e9, e10, e20, e21]
      exact ⟨rfl, (by simp only [List.length_set, hl]), (by simp only [W0, Nat.reduceEqDiff, Nat.reduceLT, ↓reduceIte, hl, e8, e9, e10, e20, e21]), (by simp only [W0, Nat.reduceEqDiff, Nat.reduceLT, ↓reduceIte, hl, e8, e9, e10, e20, e21]), (by simp only [W0, Nat.reduceEqDiff, Nat.reduceLT, ↓reduceIte, hl, e8, e9, e10, e20, e21]), (by simp only [W0, Nat.reduceEqDiff, Nat.reduceLT, ↓reduceIte, hl, e8, e9, e10, e20, e21]), (by simp only [W0, Nat.reduceEqDiff, Nat.reduceLT, ↓reduceIte, hl, e8, e9, e10, e20, e21]), (by simp only [W0, Nat.reduceEqDiff, Nat.reduceLT, ↓reduceIte, hl, e8, e9, e10, e20, e21])⟩) ?_
    rintro envg21 _ ⟨rfl, hl, e8, e9, e10, e20, e21, e22⟩
    try simp only [↓WD, W0, evalOp, Nat.reduceEqDiff, Nat.reduceLT, ↓reduceIte, reduceCtorEq, hl, e8, e9, e10, e20, e21, e22]
    refine CondK_dec (fun c23 => ?_) (fun c23 => ?_)
    · rw [if_pos c23] at wr30
      try simp only [↓WD, W0, evalOp, Nat.reduceEqDiff, Nat.reduceLT, ↓reduceIte, reduceCtorEq, hl, e8, e9, e10, e20, e21, e22]
      rw [AW_region]
      refine AE_joinR (fun e h' => h19 = h' ∧ e.length = 36 ∧ e.getD 8 .undef = .str y2.1 ∧ e.getD 9 .undef = .int .i64 y2.2 ∧ e.getD 10 .undef = .int .u64 s.1 ∧ e.getD 11 .undef = .int .i64 s.2 ∧ e.getD 20 .undef = .int .i64 (y2.1.length : Int) ∧ e.getD 21 .undef = .int .i64 s.2) (by
        simp only [↓WE, WA, WL, aop, ofValue, ofCell, isConst, abin, acall1, abuiltin, aun, AV.cells, AV.one, Nat.reduceAdd, Int.reduceLT, Int.reduceLE, ↓WD, W0, evalOp, Nat.reduceEqDiff, Nat.reduceLT, ↓reduceIte, reduceCtorEq, hl, e8, e9, e10, e20, e21, e22]
        exact ⟨rfl, (by simp only [List.length_set, hl]), (by simp only [W0, Nat.reduceEqDiff, Nat.reduceLT, ↓reduceIte, hl, e8, e9, e10, e20, e21, e22]), (by simp only [W0, Nat.reduceEqDiff, Nat.reduceLT, ↓reduceIte, hl, e8, e9, e10, e20, e21, e22]), (by simp only [W0, Nat.reduceEqDiff, Nat.reduceLT, ↓reduceIte, hl, e8, e9, e10, e20, e21, e22]), (by simp only [W0, Nat.reduceEqDiff, Nat.reduceLT, ↓reduceIte, hl, e8, e9, e10, e20, e21, e22]), (by simp only [W0, Nat.reduceEqDiff, Nat.reduceLT, ↓reduceIte, hl, e8, e9, e10, e20, e21, e22]), (by simp only [W0, Nat.reduceEqDiff, Nat.reduceLT, ↓reduceIte, hl, e8, e9, e10, e20, e21, e22])⟩) ?_
      rintro envg24 _ ⟨rfl, hl, e8, e9, e10, e11, e20, e21⟩
      try simp only [↓WD, W0, evalOp, Nat.reduceEqDiff, Nat.reduceLT, ↓reduceIte, reduceCtorEq, hl, e8, e9, e10, e11, e20, e21]
      rw [AW_region]
      obtain ⟨c25, qc25, wr30⟩ := obind wr30
      have oc25 := idx_str (P := Try.prog) (k := .i64) Try.underlying9 qc25
      have oc26 := fun g : AH => aconv_int (P := Try.prog) (h := g) (n := c25) (k' := .u8) Try.underlying5 Try.underlying25
      obtain ⟨y27, qy27, wr30⟩ := obind wr30
      have oy27 := shl_int (k := .u64) qy27
      refine AE_joinR (fun e h' => h19 = h' ∧ e.length = 36 ∧ e.getD 8 .undef = .str y2.1 ∧ e.getD 9 .undef = .int .i64 y2.2 ∧ e.getD 10 .undef = .int .u64 (orI .u64 s.1 y27) ∧ e.getD 20 .undef = .int .i64 (y2.1.length : Int) ∧ e.getD 21 .undef = .int .i64 s.2) (by
        simp only [↓WE, WA, WL, aop, ofValue, ofCell, isConst, abin, acall1, abuiltin, aun, AV.cells, AV.one, Nat.reduceAdd, Int.reduceLT, Int.reduceLE, ↓WD, W0, evalOp, Nat.reduceEqDiff, Nat.reduceLT, ↓reduceIte, reduceCtorEq, hl, e8, e9, e10, e11, e20, e21, oc25, oc26, oy27]
        exact ⟨rfl, (by simp only [List.length_set, hl]), (by simp only [W0, Nat.reduceEqDiff, Nat.reduceLT, ↓reduceIte, hl, e8, e9, e10, e11, e20, e21]), (by simp only [W0, Nat.reduceEqDiff, Nat.reduceLT, ↓reduceIte, hl, e8, e9, e10, e11, e20, e21]), (by simp only [W0, Nat.reduceEqDiff, Nat.reduceLT, ↓reduceIte, hl, e8, e9, e10, e11, e20, e21]), (by simp only [W0, Nat.reduceEqDiff, Nat.reduceLT, ↓reduceIte, hl, e8, e9, e10, e11, e20, e21]), (by simp only [W0, Nat.reduceEqDiff, Nat.reduceLT, ↓reduceIte, hl, e8, e9, e10, e11, e20, e21])⟩) ?_
      rintro envg28 _ ⟨rfl, hl, e8, e9, e10, e20, e21⟩
      try simp only [↓WD, W0, evalOp, Nat.reduceEqDiff, Nat.reduceLT, ↓reduceIte, reduceCtorEq, hl, e8, e9, e10, e20, e21]
      rw [AW_region]
      refine AE_joinR (fun e h' => h19 = h' ∧ e.length = 36 ∧ e.getD 8 .undef = .str y2.1 ∧ e.getD 9 .undef = .int .i64 y2.2 ∧ e.getD 10 .undef = .int .u64 (orI .u64 s.1 y27) ∧ e.getD 20 .undef = .int .i64 (y2.1.length : Int) ∧ e.getD 21 .undef = .int .i64 (IntKind.i64.wrap (s.2 + 1))) (by
        simp only [↓WE, WA, WL, aop, ofValue, ofCell, isConst, abin, acall1, abuiltin, aun, AV.cells, AV.one, Nat.reduceAdd, Int.reduceLT, Int.reduceLE, ↓WD, W0, evalOp, Nat.reduceEqDiff, Nat.reduceLT, ↓reduceIte, reduceCtorEq, hl, e8, e9, e10, e20, e21]
        exact ⟨rfl, (by simp only [List.length_set, hl]), (by simp only [W0, Nat.reduceEqDiff, Nat.reduceLT, ↓reduceIte, hl, e8, e9, e10, e20, e21]), (by simp only [W0, Nat.reduceEqDiff, Nat.reduceLT, ↓reduceIte, hl, e8, e9, e10, e20, e21]), (by simp only [W0, Nat.reduceEqDiff, Nat.reduceLT, ↓reduceIte, hl, e8, e9, e10, e20, e21]), (by simp only [W0, Nat.reduceEqDiff, Nat.reduceLT, ↓reduceIte, hl, e8, e9, e10, e20, e21]), (by simp only [W0, Nat.reduceEqDiff, Nat.reduceLT, ↓reduceIte, hl, e8, e9, e10, e20, e21])⟩) ?_
      rintro envg29 _ ⟨rfl, hl, e8, e9, e10, e20, e21⟩
      try simp only [↓WD, W0, evalOp, Nat.reduceEqDiff, Nat.reduceLT, ↓reduceIte, reduceCtorEq, hl, e8, e9, e10, e20, e21]
      obtain rfl := Option.some.inj wr30
      rw [KP_nil, QL_normal]
      exact ⟨_, rfl, (by simp only [List.length_set, hl]), (by simp only [W0, Nat.reduceEqDiff, Nat.reduceLT, ↓reduceIte, hl, e8, e9, e10, e20, e21]), (by simp only [W0, Nat.reduceEqDiff, Nat.reduceLT, ↓reduceIte, hl, e8, e9, e10, e20, e21]), (by simp only [W0, Nat.reduceEqDiff, Nat.reduceLT, ↓reduceIte, hl, e8, e9, e10, e20, e21]), (by simp only [W0, Nat.reduceEqDiff, Nat.reduceLT, ↓reduceIte, hl, e8, e9, e10, e20, e21]), (by simp only [W0, Nat.reduceEqDiff, Nat.reduceLT, ↓reduceIte, hl, e8, e9, e10, e20, e21]), S20⟩
    · rw [if_neg c23] at wr30
      try simp only [↓WD, W0, evalOp, Nat.reduceEqDiff, Nat.reduceLT, ↓reduceIte, reduceCtorEq, hl, e8, e9, e10, e20, e21, e22]
      obtain rfl := Option.some.inj wr30
      rw [KP_nil, QL_exit]
      exact ⟨_, rfl, rfl, (by simp only [List.length_set, hl]), (by simp only [W0, Nat.reduceEqDiff, Nat.reduceLT, ↓reduceIte, hl, e8, e9, e10, e20, e21, e22]), (by simp only [W0, Nat.reduceEqDiff, Nat.reduceLT, ↓reduceIte, hl, e8, e9, e10, e20, e21, e22]), S20⟩
  · exact ⟨(by simp only [List.length_set, hl]), (by simp only [W0, Nat.reduceEqDiff, Nat.reduceLT, ↓reduceIte, hl, e8, e9, e10, e20, e21]), (by simp only [W0, Nat.reduceEqDiff, Nat.reduceLT, ↓reduceIte, hl, e8, e9, e10, e20, e21]), (by simp only [W0, Nat.reduceEqDiff, Nat.reduceLT, ↓reduceIte, hl, e8, e9, e10, e20, e21]), (by simp only [W0, Nat.reduceEqDiff, Nat.reduceLT, ↓reduceIte, hl, e8, e9, e10, e20, e21]), (by simp only [W0, Nat.reduceEqDiff, Nat.reduceLT, ↓reduceIte, hl, e8, e9, e10, e20, e21]), S0⟩
  · rintro x envr30 h31 ⟨rfl, hl, e9, e10, S32⟩
    try simp only [↓WD, W0, evalOp, Nat.reduceEqDiff, Nat.reduceLT, ↓reduceIte, reduceCtorEq, hl, e9, e10]
    rw [AW_region]
    refine AE_joinR (fun e h' => h31 = h' ∧ e.length = 36 ∧ e.getD 6 .undef = .int .u64 r30 ∧ e.getD 7 .undef = .int .i64 y2.2) (by
      simp only [↓WE, WA, WL, aop, ofValue, ofCell, isConst, abin, acall1, abuiltin, aun, AV.cells, AV.one, Nat.reduceAdd, Int.reduceLT, Int.reduceLE, ↓WD, W0, evalOp, Nat.reduceEqDiff, Nat.reduceLT, ↓reduceIte, reduceCtorEq, hl, e9, e10]
      exact ⟨rfl, (by simp only [List.length_set, hl]), (by simp only [W0, Nat.reduceEqDiff, Nat.reduceLT, ↓reduceIte, hl, e9, e10]), (by simp only [W0, Nat.reduceEqDiff, Nat.reduceLT, ↓reduceIte, hl, e9, e10])⟩) ?_
    rintro envg33 _ ⟨rfl, hl, e6, e7⟩
    try simp only [↓WD, W0, evalOp, Nat.reduceEqDiff, Nat.reduceLT, ↓reduceIte, reduceCtorEq, hl, e6, e7]
    refine KP_ret (vs := [.int .u64 r30, .int .i64 y2.2]) (by simp only [aresults, aresult, gs, List.length_set, Nat.reduceEqDiff, Nat.reduceLT, ↓reduceIte, hl, e6, e7]) ?_
    obtain rfl := Option.some.inj hF
    exact rfl
set_option maxRecDepth 100000 in
set_option maxHeartbeats 4000000 in
theorem W_field_U32 {K : PureK} (k46 : K 46 = some kf_46) (n17 : K 17 = none) (m : Nat) (hm : NF + 1 ≤ m) (h : AH) (s_ : List UInt8) (at_ : Int) {r : Int × Int} (hF : F_field_U32 s_ at_ = some r) :
    AR (acall Try.prog (hooksOf K) (drawnOf Try.prog (tabOf K)) m 17 [.str s_, .int .i64 at_] h) (fun v h' => v = .tup [.int .i64 r.1, .int .i64 r.2]) := by
  obtain ⟨m, rfl⟩ : ∃ k, m = k + 1 := ⟨m - 1, by omega⟩
  refine AR_call (hooksOf_none n17) Try.func17 rfl _ _ fun env hl he => ?_
  have e0 := he 0
  have e1 := he 1
  simp only [List.getD_cons_zero, List.getD_cons_succ] at e0 e1
  simp only [Try.f17] at hl ⊢
  simp only [List.length_cons, List.length_nil, Nat.reduceAdd, Nat.reduceSub] at hl
  clear he
  have S0 : Sep h [] h [] := Sep.nil h
  rw [F_field_U32] at hF
  try simp only [↓WD, W0, evalOp, Nat.reduceEqDiff, Nat.reduceLT, ↓reduceIte, reduceCtorEq, hl, e0, e1]
  rw [AW_region]
  refine AE_joinR (fun e h' => h = h' ∧ e.length = 17 ∧ e.getD 0 .undef = .str s_ ∧ e.getD 1 .undef = .int .i64 at_) (by
    simp only [↓WE, WA, WL, aop, ofValue, ofCell, isConst, abin, acall1, abuiltin, aun, AV.cells, AV.one, Nat.reduceAdd, Int.reduceLT, Int.reduceLE, ↓WD, W0, evalOp, Nat.reduceEqDiff, Nat.reduceLT, ↓reduceIte, reduceCtorEq, hl, e0, e1]
    exact ⟨rfl, (by simp only [List.length_set, hl]), (by simp only [W0, Nat.reduceEqDiff, Nat.reduceLT, ↓reduceIte, hl, e0, e1]), (by simp only [W0, Nat.reduceEqDiff, Nat.reduceLT, ↓reduceIte, hl, e0, e1])⟩) ?_
  rintro envg1 _ ⟨rfl, hl, e0, e1⟩
  try simp only [↓WD, W0, evalOp, Nat.reduceEqDiff, Nat.reduceLT, ↓reduceIte, reduceCtorEq, hl, e0, e1]
  rw [AW_region]
  obtain ⟨y2, qy2, hF⟩ := obind hF
  have og3 := fun (D : Drawn) (n : Nat) (g : AH) => call_hook (P := Try.prog) (D := D) k46 n (args := [.str s_, .int .i64 at_, .int .i64 4]) (v := .tup [.int .u64 y2.1, .int .i64 y2.2]) ((kf_46_eq s_ at_ 4).trans (by rw [qy2]; rfl)) g
  refine AE_joinR (fun e h' => h = h' ∧ e.length = 17 ∧ e.getD 6 .undef = .int .u64 y2.1 ∧ e.getD 7 .undef = .int .i64 y2.2) (by
    simp only [↓WE, WA, WL, aop, ofValue, ofCell, isConst, abin, acall1, abuiltin, aun, AV.cells, AV.one, Nat.reduceAdd, Int.reduceLT, Int.reduceLE, ↓WD, W0, evalOp, Nat.reduceEqDiff, Nat.reduceLT, ↓reduceIte, reduceCtorEq, hl, e0, e1, og3]
    exact ⟨rfl, (by simp only [List.length_set, hl]), (by simp only [W0, Nat.reduceEqDiff, Nat.reduceLT, ↓reduceIte, hl, e0, e1]), (by simp only [W0, Nat.reduceEqDiff, Nat.reduceLT, ↓reduceIte, hl, e0, e1])⟩) ?_
  rintro envg4 _ ⟨rfl, hl, e6, e7⟩
  try simp only [↓WD, W0, evalOp, Nat.reduceEqDiff, Nat.reduceLT, ↓reduceIte, reduceCtorEq, hl, e6, e7]
  rw [AW_region]
  have oc5 := fun g : AH => aconv_int (P := Try.prog) (h := g) (n := y2.1) (k' := .u64) Try.underlying25 Try.underlying3
  refine AE_joinR (fun e h' => h = h' ∧ e.length = 17 ∧ e.getD 4 .undef = .int .i64 (IntKind.i64.wrap y2.1) ∧ e.getD 5 .undef = .int .i64 y2.2) (by
    simp only [↓WE, WA, WL, aop, ofValue, ofCell, isConst, abin, acall1, abuiltin, aun, AV.cells, AV.one, Nat.reduceAdd, Int.reduceLT, Int.reduceLE, ↓WD, W0, evalOp, Nat.reduceEqDiff, Nat.reduceLT, ↓reduceIte, reduceCtorEq, hl, e6, e7, oc5]
    exact ⟨rfl, (by simp only [List.length_set, hl]), (by simp only [W0, Nat.reduceEqDiff, Nat.reduceLT, ↓reduceIte, hl, e6, e7]), (by simp only [W0, Nat.reduceEqDiff, Nat.reduceLT, ↓reduceIte, hl, e6, e7])⟩) ?_
  rintro envg6 _ ⟨rfl, hl, e4, e5⟩
  try simp only [↓WD, W0, evalOp, Nat.reduceEqDiff, Nat.reduceLT, ↓reduceIte, reduceCtorEq, hl, e4, e5]
  refine KP_ret (vs := [.int .i64 (IntKind.i64.wrap y2.1), .int .i64 y2.2]) (by simp only [aresults, aresult, gs, List.length_set, Nat.reduceEqDiff, Nat.reduceLT, ↓reduceIte, hl, e4, e5]) ?_
  obtain rfl := Option.some.inj hF
  exact rfl
set_option maxRecDepth 100000 in
set_option maxHeartbeats 4000000 in
theorem W_field_put {K : PureK} (n45 : K 45 = none) (m : Nat) (hm : NF + 1 ≤ m) (h : AH) (v : Int) (n_ : Int) {r : (List UInt8)} (hF : F_field_put v n_ = some r) :
    AR (acall Try.prog (hooksOf K) (drawnOf Try.prog (tabOf K)) m 45 [.int .u64 v, .int .i64 n_] h) (fun v h' => v = .str r) := by
  obtain ⟨m, rfl⟩ : ∃ k, m = k + 1 := ⟨m - 1, by omega⟩
  refine AR_call (hooksOf_none n45) Try.func45 rfl _ _ fun env hl he => ?_
  have e0 := he 0
  have e1 := he 1
  simp only [List.getD_cons_zero, List.getD_cons_succ] at e0 e1
  simp only [Try.f45] at hl ⊢
  simp only [List.length_cons, List.length_nil, Nat.reduceAdd, Nat.reduceSub] at hl
  clear he
  have S0 : Sep h [] h [] := Sep.nil h
  rw [F_field_put] at hF
  try simp only [↓WD, W0, evalOp, Nat.reduceEqDiff, Nat.reduceLT, ↓reduceIte, reduceCtorEq, hl, e0, e1]
  rw [AW_region]
  refine AE_joinR (fun e h' => h = h' ∧ e.length = 25 ∧ e.getD 0 .undef = .int .u64 v ∧ e.getD 1 .undef = .int .i64 n_) (by
    simp only [↓WE, WA, WL, aop, ofValue, ofCell, isConst, abin, acall1, abuiltin, aun, AV.cells, AV.one, Nat.reduceAdd, Int.reduceLT, Int.reduceLE, ↓WD, W0, evalOp, Nat.reduceEqDiff, Nat.reduceLT, ↓reduceIte, reduceCtorEq, hl, e0, e1]
    exact ⟨rfl, (by simp only [List.length_set, hl]), (by simp only [W0, Nat.reduceEqDiff, Nat.reduceLT, ↓reduceIte, hl, e0, e1]), (by simp only [W0, Nat.reduceEqDiff, Nat.reduceLT, ↓reduceIte, hl, e0, e1])⟩) ?_
  rintro envg1 _ ⟨rfl, hl, e0, e1⟩
  try simp only [↓WD, W0, evalOp, Nat.reduceEqDiff, Nat.reduceLT, ↓reduceIte, reduceCtorEq, hl, e0, e1]
  rw [AW_region]
  obtain ⟨zs2, qzs2, hF⟩ := obind hF
  obtain ⟨u3, h4, om5, S6⟩ := Sep.make (P := Try.prog) sl_70 (f := (cellI .u8)) (by rw [zero_5]; rfl) S0 qzs2 .i64 .i64
  have S8 : Sep h [] h4 [.row u3 5 1 (zs2.map (cellI .u8))] := S6
  refine AE_joinR (fun e h' => h4 = h' ∧ e.length = 25 ∧ e.getD 0 .undef = .int .u64 v ∧ e.getD 5 .undef = u3) (by
    simp only [↓WE, WA, WL, aop, ofValue, ofCell, isConst, abin, acall1, abuiltin, aun, AV.cells, AV.one, Nat.reduceAdd, Int.reduceLT, Int.reduceLE, ↓WD, W0, evalOp, Nat.reduceEqDiff, Nat.reduceLT, ↓reduceIte, reduceCtorEq, hl, e0, e1, om5]
    exact ⟨rfl, (by simp only [List.length_set, hl]), (by simp only [W0, Nat.reduceEqDiff, Nat.reduceLT, ↓reduceIte, hl, e0, e1]), (by simp only [W0, Nat.reduceEqDiff, Nat.reduceLT, ↓reduceIte, hl, e0, e1])⟩) ?_
  rintro envg9 _ ⟨rfl, hl, e0, e5⟩
  try simp only [↓WD, W0, evalOp, Nat.reduceEqDiff, Nat.reduceLT, ↓reduceIte, reduceCtorEq, hl, e0, e5]
  rw [AW_region]
  have ol10 := RO.len (P := Try.prog) sl_70 (S8.row_ro (i := 0) rfl)
  rw [List.length_map] at ol10
  refine AE_joinR (fun e h' => h4 = h' ∧ e.length = 25 ∧ e.getD 0 .undef = .int .u64 v ∧ e.getD 5 .undef = u3 ∧ e.getD 10 .undef = .int .i64 (zs2.length : Int) ∧ e.getD 11 .undef = .int .i64 0) (by
    simp only [↓WE, WA, WL, aop, ofValue, ofCell, isConst, abin, acall1, abuiltin, aun, AV.cells, AV.one, Nat.reduceAdd, Int.reduceLT, Int.reduceLE, ↓WD, W0, evalOp, Nat.reduceEqDiff, Nat.reduceLT, ↓reduceIte, reduceCtorEq, hl, e0, e5, ol10]
    exact ⟨rfl, (by simp only [List.length_set, hl]), (by simp only [W0, Nat.reduceEqDiff, Nat.reduceLT, ↓reduceIte, hl, e0, e5]), (by simp only [W0, Nat.reduceEqDiff, Nat.reduceLT, ↓reduceIte, hl, e0, e5]), (by simp only [W0, Nat.reduceEqDiff, Nat.reduceLT, ↓reduceIte, hl, e0, e5]), (by simp only [W0, Nat.reduceEqDiff, Nat.reduceLT, ↓reduceIte, hl, e0, e5])⟩) ?_
  rintro envg11 _ ⟨rfl, hl, e0, e5, e10, e11⟩
  try simp only [↓WD, W0, evalOp, Nat.reduceEqDiff, Nat.reduceLT, ↓reduceIte, reduceCtorEq, hl, e0, e5, e10, e11]
  obtain ⟨r52, qr52, hF⟩ := obind hF
  refine AW_lift (L_field_put_1 zs2 v) (fun s e h' => e.length = 25 ∧ e.getD 0 .undef = .int .u64 v ∧ e.getD 5 .undef = u3 ∧ e.getD 10 .undef = .int .i64 (zs2.length : Int) ∧ e.getD 11 .undef = .int .i64 s.2 ∧ Sep h [] h' [.row u3 5 1 (s.1.map (cellI .u8))]) (fun r52 x e h' => x = .exit 0 ∧ e.length = 25 ∧ e.getD 5 .undef = u3 ∧ Sep h [] h' [.row u3 5 1 (r52.map (cellI .u8))]) qr52 (by omega) ?_ ?_ ?_
  · rintro s envr52 h32 or52 ⟨hl, e0, e5, e10, e11, S33⟩ wr52
    rw [L_field_put_1] at wr52
    try simp only [↓WD, W0, evalOp, Nat.reduceEqDiff, Nat.reduceLT, ↓reduceIte, reduceCtorEq, hl, e0, e5, e10, e11]
    rw [AW_region]
    refine AE_joinR (fun e h' => h32 = h' ∧ e.length = 25 ∧ e.getD 0 .undef = .int .u64 v ∧ e.getD 5 .undef = u3 ∧ e.getD 10 .undef = .int .i64 (zs2.length : Int) ∧ e.getD 11 .undef = .int .i64 s.2 ∧ e.getD 12 .undef = .bool (decide (s.2 < (zs2.length : Int)))) (by
      simp only [↓WE, WA, WL, aop, ofValue, ofCell, isConst, abin, acall1, abuiltin, aun, AV.cells, AV.one, Nat.reduceAdd, Int.reduceLT, Int.reduceLE, ↓WD, W0, evalOp, Nat.reduceEqDiff, Nat.reduceLT, ↓reduceIte, reduceCtorEq, hl, e0, e5, e10, e11]
      exact ⟨rfl, (by simp only [List.length_set, hl]), (by simp only [W0, Nat.reduceEqDiff, Nat.reduceLT, ↓reduceIte, hl, e0, e5, e10, e11]), (by simp only [W0, Nat.reduceEqDiff, Nat.reduceLT, ↓reduceIte, hl, e0, e5, e10, e11]), (by simp only [W0, Nat.reduceEqDiff, Nat.reduceLT, ↓reduceIte, hl, e0, e5, e10, e11]), (by simp only [W0, Nat.reduceEqDiff, Nat.reduceLT, ↓reduceIte, hl, e0, e5, e10, e11]), (by simp only [W0, Nat.reduceEqDiff, Nat.reduceLT, ↓reduceIte, hl, e0, e5, e10, e11])⟩) ?_
    rintro envg34 _ ⟨rfl, hl, e0, e5, e10, e11, e12⟩
    try simp only [↓WD, W0, evalOp, Nat.reduceEqDiff, Nat.reduceLT, ↓reduceIte, reduceCtorEq, hl, e0, e5, e10, e11, e12]
    refine CondK_dec (fun c36 => ?_) (fun c36 => ?_)
    · rw [if_pos c36] at wr52
      try simp only [↓WD, W0, evalOp, Nat.reduceEqDiff, Nat.reduceLT, ↓reduceIte, reduceCtorEq, hl, e0, e5, e10, e11, e12]
      rw [AW_region]
      refine AE_joinR (fun e h' => h32 = h' ∧ e.length = 25 ∧ e.getD 0 .undef = .int .u64 v ∧ e.getD 5 .undef = u3 ∧ e.getD 6 .undef = .int .i64 s.2 ∧ e.getD 10 .undef = .int .i64 (zs2.length : Int) ∧ e.getD 11 .undef = .int .i64 s.2) (by
        simp only [↓WE, WA, WL, aop, ofValue, ofCell, isConst, abin, acall1, abuiltin, aun, AV.cells, AV.one, Nat.reduceAdd, Int.reduceLT, Int.reduceLE, ↓WD, W0, evalOp, Nat.reduceEqDiff, Nat.reduceLT, ↓reduceIte, reduceCtorEq, hl, e0, e5, e10, e11, e12]
        exact ⟨rfl, (by simp only [List.length_set, hl]), (by simp only [W0, Nat.reduceEqDiff, Nat.reduceLT, ↓reduceIte, hl, e0, e5, e10, e11, e12]), (by simp only [W0, Nat.reduceEqDiff, Nat.reduceLT, ↓reduceIte, hl, e0, e5, e10, e11, e12]), (by simp only [W0, Nat.reduceEqDiff, Nat.reduceLT, ↓reduceIte, hl, e0, e5, e10, e11, e12]), (by simp only [W0, Nat.reduceEqDiff, Nat.reduceLT, ↓reduceIte, hl, e0, e5, e10, e11, e12]), (by simp only [W0, Nat.reduceEqDiff, Nat.reduceLT, ↓reduceIte, hl, e0, e5, e10, e11, e12])⟩) ?_
      rintro envg37 _ ⟨rfl, hl, e0, e5, e6, e10, e11⟩
      try simp only [↓WD, W0, evalOp, Nat.reduceEqDiff, Nat.reduceLT, ↓reduceIte, reduceCtorEq, hl, e0, e5, e6, e10, e11]
      rw [AW_region]
      obtain ⟨y38, qy38, wr52⟩ := obind wr52
      have oy38 := shr_int (k := .u64) qy38
      have oc39 := fun g : AH => aconv_int (P := Try.prog) (h := g) (n := y38) (k' := .u64) Try.underlying25 Try.underlying5
      obtain ⟨x40, qx40, wr52⟩ := obind wr52
      obtain ⟨i41, off42, oi43, hp44⟩ := RO.addr (P := Try.prog) sl_70 (S33.row_ro (i := 0) rfl) qx40
      obtain ⟨y48, qy48, wr52⟩ := obind wr52
      obtain ⟨h45, os46, S47⟩ := S33.rstore (P := Try.prog) 0 rfl hp44 (x := x40) (z := IntKind.u8.wrap y38) (by first | exact qx40 | (simp only [idxL] at *; assumption)) (t := 5) (o := 0) (v := .int .u8 (IntKind.u8.wrap y38)) rfl sz_5 rfl (by simp) rfl qy48
      simp only [Nat.add_zero] at os46
      have S49 : Sep h [] h45 [.row u3 5 1 (y48.map (cellI .u8))] := S47
      refine AE_joinR (fun e h' => h45 = h' ∧ e.length = 25 ∧ e.getD 0 .undef = .int .u64 v ∧ e.getD 5 .undef = u3 ∧ e.getD 10 .undef = .int .i64 (zs2.length : Int) ∧ e.getD 11 .undef = .int .i64 s.2) (by
        simp only [↓WE, WA, WL, aop, ofValue, ofCell, isConst, abin, acall1, abuiltin, aun, AV.cells, AV.one, Nat.reduceAdd, Int.reduceLT, Int.reduceLE, ↓WD, W0, evalOp, Nat.reduceEqDiff, Nat.reduceLT, ↓reduceIte, reduceCtorEq, hl, e0, e5, e6, e10, e11, oy38, oc39, oi43, os46]
        exact ⟨rfl, (by simp only [List.length_set, hl]), (by simp only [W0, Nat.reduceEqDiff, Nat.reduceLT, ↓reduceIte, hl, e0, e5, e6, e10, e11]), (by simp only [W0, Nat.reduceEqDiff, Nat.reduceLT, ↓reduceIte, hl, e0, e5, e6, e10, e11]), (by simp only [W0, Nat.reduceEqDiff, Nat.reduceLT, ↓reduceIte, hl, e0, e5, e6, e10, e11]), (by simp only [W0, Nat.reduceEqDiff, Nat.reduceLT, ↓reduceIte, hl, e0, e5, e6, e10, e11])⟩) ?_
      rintro envg50 _ ⟨rfl, hl, e0, e5, e10, e11⟩
      try simp only [↓WD, W0, evalOp, Nat.reduceEqDiff, Nat.reduceLT, ↓reduceIte, reduceCtorEq, hl, e0, e5, e10, e11]
      rw [AW_region]
      refine AE_joinR (fun e h' => h45 = h' ∧ e.length = 25 ∧ e.getD 0 .undef = .int .u64 v ∧ e.getD 5 .undef = u3 ∧ e.getD 10 .undef = .int .i64 (zs2.length : Int) ∧ e.getD 11 .undef = .int .i64 (IntKind.i64.wrap (s.2 + 1))) (by
        simp only [↓WE, WA, WL, aop, ofValue, ofCell, isConst, abin, acall1, abuiltin, aun, AV.cells, AV.one, Nat.reduceAdd, Int.reduceLT, Int.reduceLE, ↓WD, W0, evalOp, Nat.reduceEqDiff, Nat.reduceLT, ↓reduceIte, reduceCtorEq, hl, e0, e5, e10, e11]
        exact ⟨rfl, (by simp only [List.length_set, hl]), (by simp only [W0, Nat.reduceEqDiff, Nat.reduceLT, ↓reduceIte, hl, e0, e5, e10, e11]), (by simp only [W0, Nat.reduceEqDiff, Nat.reduceLT, ↓reduceIte, hl, e0, e5, e10, e11]), (by simp only [W0, Nat.reduceEqDiff, Nat.reduceLT, ↓reduceIte, hl, e0, e5, e10, e11]), (by simp only [W0, Nat.reduceEqDiff, Nat.reduceLT, ↓reduceIte, hl, e0, e5, e10, e11])⟩) ?_
      rintro envg51 _ ⟨rfl, hl, e0, e5, e10, e11⟩
      try simp only [↓WD, W0, evalOp, Nat.reduceEqDiff, Nat.reduceLT, ↓reduceIte, reduceCtorEq, hl, e0, e5, e10, e11]
      obtain rfl := Option.some.inj wr52
      rw [KP_nil, QL_normal]
      exact ⟨_, rfl, (by simp only [List.length_set, hl]), (by simp only [W0, Nat.reduceEqDiff, Nat.reduceLT, ↓reduceIte, hl, e0, e5, e10, e11]), (by simp only [W0, Nat.reduceEqDiff, Nat.reduceLT, ↓reduceIte, hl, e0, e5, e10, e11]), (by simp only [W0, Nat.reduceEqDiff, Nat.reduceLT, ↓reduceIte, hl, e0, e5, e10, e11]), (by simp only [W0, Nat.reduceEqDiff, Nat.reduceLT, ↓reduceIte, hl, e0, e5, e10, e11]), S49⟩
    · rw [if_neg c36] at wr52
      try simp only [↓WD, W0, evalOp, Nat.reduceEqDiff, Nat.reduceLT, ↓reduceIte, reduceCtorEq, hl, e0, e5, e10, e11, e12]
      obtain rfl := Option.some.inj wr52
      rw [KP_nil, QL_exit]
      exact ⟨_, rfl, rfl, (by simp only [List.length_set, hl]), (by simp only [W0, Nat.reduceEqDiff, Nat.reduceLT, ↓reduceIte, hl, e0, e5, e10, e11, e12]), S33⟩
  · exact ⟨(by simp only [List.length_set, hl]), (by simp only [W0, Nat.reduceEqDiff, Nat.reduceLT, ↓reduceIte, hl, e0, e5, e10, e11]), (by simp only [W0, Nat.reduceEqDiff, Nat.reduceLT, ↓reduceIte, hl, e0, e5, e10, e11]), (by simp only [W0, Nat.reduceEqDiff, Nat.reduceLT, ↓reduceIte, hl, e0, e5, e10, e11]), (by simp only [W0, Nat.reduceEqDiff, Nat.reduceLT, ↓reduceIte, hl, e0, e5, e10, e11]), S8⟩
  · rintro x envr52 h53 ⟨rfl, hl, e5, S54⟩
    try simp only [↓WD, W0, evalOp, Nat.reduceEqDiff, Nat.reduceLT, ↓reduceIte, reduceCtorEq, hl, e5]
    rw [AW_region]
    have oc55 := RO.str (P := Try.prog) Try.underlying70 Try.underlying5 Try.underlying9 (S54.row_ro (i := 0) rfl)
    refine AE_joinR (fun e h' => h53 = h' ∧ e.length = 25 ∧ e.getD 4 .undef = .str (r52.map byt)) (by
      simp only [↓WE, WA, WL, aop, ofValue, ofCell, isConst, abin, acall1, abuiltin, aun, AV.cells, AV.one, Nat.reduceAdd, Int.reduceLT, Int.reduceLE, ↓WD, W0, evalOp, Nat.reduceEqDiff, Nat.reduceLT, ↓reduceIte, reduceCtorEq, hl, e5, oc55]
      exact ⟨rfl, (by simp only [List.length_set, hl]), (by simp only [W0, Nat.reduceEqDiff, Nat.reduceLT, ↓reduceIte, hl, e5])⟩) ?_
    rintro envg56 _ ⟨rfl, hl, e4⟩
    try simp only [↓WD, W0, evalOp, Nat.reduceEqDiff, Nat.reduceLT, ↓reduceIte, reduceCtorEq, hl, e4]
    refine KP_ret (vs := [.str (r52.map byt)]) (by simp only [aresults, aresult, gs, List.length_set, Nat.reduceEqDiff, Nat.reduceLT, ↓reduceIte, hl, e4]) ?_
    obtain rfl := Option.some.inj hF
    exact rfl
set_option maxRecDepth 100000 in
set_option maxHeartbeats 4000000 in
theorem W_field_P32 {K : PureK} (k45 : K 45 = some kf_45) (n14 : K 14 = none) (m : Nat) (hm : NF + 1 ≤ m) (h : AH) (n_ : Int) {r : (List UInt8)} (hF : F_field_P32 n_ = some r) :
    AR (acall Try.prog (hooksOf K) (drawnOf Try.prog (tabOf K)) m 14 [.int .i64 n_] h) (fun v h' => v = .str r) := by
  obtain ⟨m, rfl⟩ : ∃ k, m = k + 1 := ⟨m - 1, by omega⟩
  refine AR_call (hooksOf_none n14) Try.func14 rfl _ _ fun env hl he => ?_
  have e0 := he 0
  simp only [List.getD_cons_zero, List.getD_cons_succ] at e0
  simp only [Try.f14] at hl ⊢
  simp only [List.length_cons, List.length_nil, Nat.reduceAdd, Nat.reduceSub] at hl
  clear he
  have S0 : Sep h [] h [] := Sep.nil h
  rw [F_field_P32] at hF
  try simp only [↓WD, W0, evalOp, Nat.reduceEqDiff, Nat.reduceLT, ↓reduceIte, reduceCtorEq, hl, e0]
  rw [AW_region]
  refine AE_joinR (fun e h' => h = h' ∧ e.length = 6 ∧ e.getD 0 .undef = .int .i64 n_) (by
    simp only [↓WE, WA, WL, aop, ofValue, ofCell, isConst, abin, acall1, abuiltin, aun, AV.cells, AV.one, Nat.reduceAdd, Int.reduceLT, Int.reduceLE, ↓WD, W0, evalOp, Nat.reduceEqDiff, Nat.reduceLT, ↓reduceIte, reduceCtorEq, hl, e0]
    exact ⟨rfl, (by simp only [List.length_set, hl]), (by simp only [W0, Nat.reduceEqDiff, Nat.reduceLT, ↓reduceIte, hl, e0])⟩) ?_
  rintro envg1 _ ⟨rfl, hl, e0⟩
  try simp only [↓WD, W0, evalOp, Nat.reduceEqDiff, Nat.reduceLT, ↓reduceIte, reduceCtorEq, hl, e0]
  rw [AW_region]
  have oc2 := fun g : AH => aconv_int (P := Try.prog) (h := g) (n := n_) (k' := .i64) Try.underlying3 Try.underlying25
  obtain ⟨y3, qy3, hF⟩ := obind hF
  have og4 := fun (D : Drawn) (n : Nat) (g : AH) => call_hook (P := Try.prog) (D := D) k45 n (args := [.int .u64 (IntKind.u64.wrap n_), .int .i64 4]) (v := .str y3) ((kf_45_eq (IntKind.u64.wrap n_) 4).trans (by rw [qy3]; rfl)) g
  refine AE_joinR (fun e h' => h = h' ∧ e.length = 6 ∧ e.getD 2 .undef = .str y3) (by
    simp only [↓WE, WA, WL, aop, ofValue, ofCell, isConst, abin, acall1, abuiltin, aun, AV.cells, AV.one, Nat.reduceAdd, Int.reduceLT, Int.reduceLE, ↓WD, W0, evalOp, Nat.reduceEqDiff, Nat.reduceLT, ↓reduceIte, reduceCtorEq, hl, e0, oc2, og4]
    exact ⟨rfl, (by simp only [List.length_set, hl]), (by simp only [W0, Nat.reduceEqDiff, Nat.reduceLT, ↓reduceIte, hl, e0])⟩) ?_
  rintro envg5 _ ⟨rfl, hl, e2⟩
  try simp only [↓WD, W0, evalOp, Nat.reduceEqDiff, Nat.reduceLT, ↓reduceIte, reduceCtorEq, hl, e2]
  refine KP_ret (vs := [.str y3]) (by simp only [aresults, aresult, gs, List.length_set, Nat.reduceEqDiff, Nat.reduceLT, ↓reduceIte, hl, e2]) ?_
  obtain rfl := Option.some.inj hF
  exact rfl
set_option maxRecDepth 100000 in
set_option maxHeartbeats 4000000 in
theorem W_ref02_Cut {K : PureK} (n49 : K 49 = none) (m : Nat) (hm : NF + 1 ≤ m) (h : AH) (s_ : List UInt8) (at_ : Int) (n_ : Int) {r : (List UInt8) × Int} (hF : F_ref02_Cut s_ at_ n_ = some r) :
    AR (acall Try.prog (hooksOf K) (drawnOf Try.prog (tabOf K)) m 49 [.str s_, .int .i64 at_, .int .i64 n_] h) (fun v h' => v = .tup [.str r.1, .int .i64 r.2]) := by
  obtain ⟨m, rfl⟩ : ∃ k, m = k + 1 := ⟨m - 1, by omega⟩
  refine AR_call (hooksOf_none n49) Try.func49 rfl _ _ fun env hl he => ?_
  have e0 := he 0
  have e1 := he 1
  have e2 := he 2
  simp only [List.getD_cons_zero, List.getD_cons_succ] at e0 e1 e2
  simp only [Try.f49] at hl ⊢
  simp only [List.length_cons, List.length_nil, Nat.reduceAdd, Nat.reduceSub] at hl
  clear he
  have S0 : Sep h [] h [] := Sep.nil h
  rw [F_ref02_Cut] at hF
  try simp only [↓WD, W0, evalOp, Nat.reduceEqDiff, Nat.reduceLT, ↓reduceIte, reduceCtorEq, hl, e0, e1, e2]
  rw [AW_region]
  refine AE_joinR (fun e h' => h = h' ∧ e.length = 34 ∧ e.getD 0 .undef = .str s_ ∧ e.getD 1 .undef = .int .i64 at_ ∧ e.getD 2 .undef = .int .i64 n_) (by
    simp only [↓WE, WA, WL, aop, ofValue, ofCell, isConst, abin, acall1, abuiltin, aun, AV.cells, AV.one, Nat.reduceAdd, Int.reduceLT, Int.reduceLE, ↓WD, W0, evalOp, Nat.reduceEqDiff, Nat.reduceLT, ↓reduceIte, reduceCtorEq, hl, e0, e1, e2]
    exact ⟨rfl, (by simp only [List.length_set, hl]), (by simp only [W0, Nat.reduceEqDiff, Nat.reduceLT, ↓reduceIte, hl, e0, e1, e2]), (by simp only [W0, Nat.reduceEqDiff, Nat.reduceLT, ↓reduceIte, hl, e0, e1, e2]), (by simp only [W0, Nat.reduceEqDiff, Nat.reduceLT, ↓reduceIte, hl, e0, e1, e2])⟩) ?_
  rintro envg1 _ ⟨rfl, hl, e0, e1, e2⟩
  try simp only [↓WD, W0, evalOp, Nat.reduceEqDiff, Nat.reduceLT, ↓reduceIte, reduceCtorEq, hl, e0, e1, e2]
  rw [AW_region]
  obtain ⟨j13, qj13, hF⟩ := obind hF
  refine AE_joinR (fun e h' => e.length = 34 ∧ e.getD 0 .undef = .str s_ ∧ e.getD 1 .undef = .int .i64 at_ ∧ e.getD 2 .undef = .int .i64 n_ ∧ e.getD 27 .undef = .bool j13 ∧ Sep h [] h' []) ?_ ?_
  · simp only [↓WE, WA, WL, aop, ofValue, ofCell, isConst, abin, acall1, abuiltin, aun, AV.cells, AV.one, Nat.reduceAdd, Int.reduceLT, Int.reduceLE, ↓WD, W0, evalOp, Nat.reduceEqDiff, Nat.reduceLT, ↓reduceIte, reduceCtorEq, hl, e0, e1, e2]
    refine GuardW_dec (fun c2 => ?_) (fun c2 => ?_)
    · rw [if_pos c2] at qj13
      have d3 : (decide (at_ < 0)) = true := decide_eq_true c2
      simp only [↓WE, WA, WL, aop, ofValue, ofCell, isConst, abin, acall1, abuiltin, aun, AV.cells, AV.one, Nat.reduceAdd, Int.reduceLT, Int.reduceLE, ↓WD, W0, evalOp, Nat.reduceEqDiff, Nat.reduceLT, ↓reduceIte, reduceCtorEq, hl, e0, e1, e2, d3]
      obtain rfl := Option.some.inj qj13
      exact ⟨(by simp only [List.length_set, hl]), (by simp only [W0, Nat.reduceEqDiff, Nat.reduceLT, ↓reduceIte, hl, e0, e1, e2]), (by simp only [W0, Nat.reduceEqDiff, Nat.reduceLT, ↓reduceIte, hl, e0, e1, e2]), (by simp only [W0, Nat.reduceEqDiff, Nat.reduceLT, ↓reduceIte, hl, e0, e1, e2]), (by simp only [W0, Nat.reduceEqDiff, Nat.reduceLT, ↓reduceIte, hl, e0, e1, e2]), S0⟩
    · rw [if_neg c2] at qj13
      have d4 : (decide (at_ < 0)) = false := decide_eq_false c2
      simp only [↓WE, WA, WL, aop, ofValue, ofCell, isConst, abin, acall1, abuiltin, aun, AV.cells, AV.one, Nat.reduceAdd, Int.reduceLT, Int.reduceLE, ↓WD, W0, evalOp, Nat.reduceEqDiff, Nat.reduceLT, ↓reduceIte, reduceCtorEq, hl, e0, e1, e2, d4]
      refine GuardW_dec (fun c5 => ?_) (fun c5 => ?_)
      · rw [if_pos c5] at qj13
        have d6 : (decide (n_ < 0)) = true := decide_eq_true c5
        simp only [↓WE, WA, WL, aop, ofValue, ofCell, isConst, abin, acall1, abuiltin, aun, AV.cells, AV.one, Nat.reduceAdd, Int.reduceLT, Int.reduceLE, ↓WD, W0, evalOp, Nat.reduceEqDiff, Nat.reduceLT, ↓reduceIte, reduceCtorEq, hl, e0, e1, e2, d4, d6]
        obtain rfl := Option.some.inj qj13
        exact ⟨(by simp only [List.length_set, hl]), (by simp only [W0, Nat.reduceEqDiff, Nat.reduceLT, ↓reduceIte, hl, e0, e1, e2]), (by simp only [W0, Nat.reduceEqDiff, Nat.reduceLT, ↓reduceIte, hl, e0, e1, e2]), (by simp only [W0, Nat.reduceEqDiff, Nat.reduceLT, ↓reduceIte, hl, e0, e1, e2]), (by simp only [W0, Nat.reduceEqDiff, Nat.reduceLT, ↓reduceIte, hl, e0, e1, e2]), S0⟩
      · rw [if_neg c5] at qj13
        have d7 : (decide (n_ < 0)) = false := decide_eq_false c5
        have ol8 := fun g : AH => alen_str (P := Try.prog) (h := g) (l := s_) Try.underlying9
        simp only [↓WE, WA, WL, aop, ofValue, ofCell, isConst, abin, acall1, abuiltin, aun, AV.cells, AV.one, Nat.reduceAdd, Int.reduceLT, Int.reduceLE, ↓WD, W0, evalOp, Nat.reduceEqDiff, Nat.reduceLT, ↓reduceIte, reduceCtorEq, hl, e0, e1, e2, ol8, d4, d7]
        refine GuardW_dec (fun c9 => ?_) (fun c9 => ?_)
        · rw [if_pos c9] at qj13
          have d10 : (decide (at_ > (s_.length : Int))) = true := decide_eq_true c9
          simp only [↓WE, WA, WL, aop, ofValue, ofCell, isConst, abin, acall1, abuiltin, aun, AV.cells, AV.one, Nat.reduceAdd, Int.reduceLT, Int.reduceLE, ↓WD, W0, evalOp, Nat.reduceEqDiff, Nat.reduceLT, ↓reduceIte, reduceCtorEq, hl, e0, e1, e2, ol8, d4, d7, d10]
          obtain rfl := Option.some.inj qj13
          exact ⟨(by simp only [List.length_set, hl]), (by simp only [W0, Nat.reduceEqDiff, Nat.reduceLT, ↓reduceIte, hl, e0, e1, e2]), (by simp only [W0, Nat.reduceEqDiff, Nat.reduceLT, ↓reduceIte, hl, e0, e1, e2]), (by simp only [W0, Nat.reduceEqDiff, Nat.reduceLT, ↓reduceIte, hl, e0, e1, e2]), (by simp only [W0, Nat.reduceEqDiff, Nat.reduceLT, ↓reduceIte, hl, e0, e1, e2]), S0⟩
        · rw [if_neg c9] at qj13
          have d11 : (decide (at_ > (s_.length : Int))) = false := decide_eq_false c9
          have ol12 := fun g : AH => alen_str (P := Try.prog) (h := g) (l := s_) Try.underlying9
          simp only [↓WE, WA, WL, aop, ofValue, ofCell, isConst, abin, acall1, abuiltin, aun, AV.cells, AV.one, Nat.reduceAdd, Int.reduceLT, Int.reduceLE, ↓WD, W0, evalOp, Nat.reduceEqDiff, Nat.reduceLT, ↓reduceIte, reduceCtorEq, hl, e0, e1, e2, ol8, ol12, d4, d7, d11]
          obtain rfl := Option.some.inj qj13
          exact ⟨(by simp only [List.length_set, hl]), (by simp only [W0, Nat.reduceEqDiff, Nat.reduceLT, ↓reduceIte, hl, e0, e1, e2]), (by simp only [W0, Nat.reduceEqDiff, Nat.reduceLT, ↓reduceIte, hl, e0, e1, e2]), (by simp only [W0, Nat.reduceEqDiff, Nat.reduceLT, ↓reduceIte, hl, e0, e1, e2]), (by simp only [W0, Nat.reduceEqDiff, Nat.reduceLT, ↓reduceIte, hl, e0, e1, e2]), S0⟩
  · rintro envj13 h15 ⟨hl, e0, e1, e2, e27, S14⟩
    try simp only [↓WD, W0, evalOp, Nat.reduceEqDiff, Nat.reduceLT, ↓reduceIte, reduceCtorEq, hl, e0, e1, e2, e27]
    refine CondK_boo (fun c18 => ?_) (fun c18 => ?_)
    · rw [if_pos c18] at hF
      try simp only [↓WD, W0, evalOp, Nat.reduceEqDiff, Nat.reduceLT, ↓reduceIte, reduceCtorEq, hl, e0, e1, e2, e27]
      rw [AW_region]
      refine AE_joinR (fun e h' => h15 = h' ∧ e.length = 34 ∧ e.getD 6 .undef = .str [] ∧ e.getD 7 .undef = .int .i64 3) (by
        simp only [↓WE, WA, WL, aop, ofValue, ofCell, isConst, abin, acall1, abuiltin, aun, AV.cells, AV.one, Nat.reduceAdd, Int.reduceLT, Int.reduceLE, ↓WD, W0, evalOp, Nat.reduceEqDiff, Nat.reduceLT, ↓reduceIte, reduceCtorEq, hl, e0, e1, e2, e27]
        exact ⟨rfl, (by simp only [List.length_set, hl]), (by simp only [W0, Nat.reduceEqDiff, Nat.reduceLT, ↓reduceIte, hl, e0, e1, e2, e27]), (by simp only [W0, Nat.reduceEqDiff, Nat.reduceLT, ↓reduceIte, hl, e0, e1, e2, e27])⟩) ?_
      rintro envg19 _ ⟨rfl, hl, e6, e7⟩
      try simp only [↓WD, W0, evalOp, Nat.reduceEqDiff, Nat.reduceLT, ↓reduceIte, reduceCtorEq, hl, e6, e7]
      refine KP_ret (vs := [.str [], .int .i64 3]) (by simp only [aresults, aresult, gs, List.length_set, Nat.reduceEqDiff, Nat.reduceLT, ↓reduceIte, hl, e6, e7]) ?_
      obtain rfl := Option.some.inj hF
      exact rfl
    · rw [if_neg (nf c18)] at hF
      try simp only [↓WD, W0, evalOp, Nat.reduceEqDiff, Nat.reduceLT, ↓reduceIte, reduceCtorEq, hl, e0, e1, e2, e27]
      rw [AW_region]
      obtain ⟨s20, qs20, hF⟩ := obind hF
      have os20 := fun g : AH => sub_str (P := Try.prog) (h := g) (k := .i64) (k' := .i64) Try.underlying9 qs20
      refine AE_joinR (fun e h' => h15 = h' ∧ e.length = 34 ∧ e.getD 6 .undef = .str s20 ∧ e.getD 7 .undef = .int .i64 0) (by
        simp only [↓WE, WA, WL, aop, ofValue, ofCell, isConst, abin, acall1, abuiltin, aun, AV.cells, AV.one, Nat.reduceAdd, Int.reduceLT, Int.reduceLE, ↓WD, W0, evalOp, Nat.reduceEqDiff, Nat.reduceLT, ↓reduceIte, reduceCtorEq, hl, e0, e1, e2, e27, os20]
        exact ⟨rfl, (by simp only [List.length_set, hl]), (by simp only [W0, Nat.reduceEqDiff, Nat.reduceLT, ↓reduceIte, hl, e0, e1, e2, e27]), (by simp only [W0, Nat.reduceEqDiff, Nat.reduceLT, ↓reduceIte, hl, e0, e1, e2, e27])⟩) ?_
      rintro envg21 _ ⟨rfl, hl, e6, e7⟩
      try simp only [↓WD, W0, evalOp, Nat.reduceEqDiff, Nat.reduceLT, ↓reduceIte, reduceCtorEq, hl, e6, e7]
      refine KP_ret (vs := [.str s20, .int .i64 0]) (by simp only [aresults, aresult, gs, List.length_set, Nat.reduceEqDiff, Nat.reduceLT, ↓reduceIte, hl, e6, e7]) ?_
      obtain rfl := Option.some.inj hF
      exact rfl
set_option maxRecDepth 100000 in
set_option maxHeartbeats 4000000 in
theorem W_ref02_Num {K : PureK} (k49 : K 49 = some kf_49) (n53 : K 53 = none) (m : Nat) (hm : NF + 1 ≤ m) (h : AH) (s_ : List UInt8) (at_ : Int) (n_ : Int) {r : Int × Int} (hF : F_ref02_Num s_ at_ n_ = some r) :
    AR (acall Try.prog (hooksOf K) (drawnOf Try.prog (tabOf K)) m 53 [.str s_, .int .i64 at_, .int .i64 n_] h) (fun v h' => v = .tup [.int .u64 r.1, .int .i64 r.2]) := by
  obtain ⟨m, rfl⟩ : ∃ k, m = k + 1 := ⟨m - 1, by omega⟩
  refine AR_call (hooksOf_none n53) Try.func53 rfl _ _ fun env hl he => ?_
  have e0 := he 0
  have e1 := he 1
  have e2 := he 2
  simp only [List.getD_cons_zero, List.getD_cons_succ] at e0 e1 e2
  simp only [Try.f53] at hl ⊢
  simp only [List.length_cons, List.length_nil, Nat.reduceAdd, Nat.reduceSub] at hl
  clear he
  have S0 : Sep h [] h [] := Sep.nil h
  rw [F_ref02_Num] at hF
  try simp only [↓WD, W0, evalOp, Nat.reduceEqDiff, Nat.reduceLT, ↓reduceIte, reduceCtorEq, hl, e0, e1, e2]
  rw [AW_region]
  refine AE_joinR (fun e h' => h = h' ∧ e.length = 35 ∧ e.getD 0 .undef = .str s_ ∧ e.getD 1 .undef = .int .i64 at_ ∧ e.getD 2 .undef = .int .i64 n_) (by
    simp only [↓WE, WA, WL, aop, ofValue, ofCell, isConst, abin, acall1, abuiltin, aun, AV.cells, AV.one, Nat.reduceAdd, Int.reduceLT, Int.reduceLE, ↓WD, W0, evalOp, Nat.reduceEqDiff, Nat.reduceLT, ↓reduceIte, reduceCtorEq, hl, e0, e1, e2]
    exact ⟨rfl, (by simp only [List.length_set, hl]), (by simp only [W0, Nat.reduceEqDiff, Nat.reduceLT, ↓reduceIte, hl, e0, e1, e2]), (by simp only [W0, Nat.reduceEqDiff, Nat.reduceLT, ↓reduceIte, hl, e0, e1, e2]), (by simp only [W0, Nat.reduceEqDiff, Nat.reduceLT, ↓reduceIte, hl, e0, e1, e2])⟩) ?_
  rintro envg1 _ ⟨rfl, hl, e0, e1, e2⟩
  try simp only [↓WD, W0, evalOp, Nat.reduceEqDiff, Nat.reduceLT, ↓reduceIte, reduceCtorEq, hl, e0, e1, e2]
  rw [AW_region]
  obtain ⟨y2, qy2, hF⟩ := obind hF
  have og3 := fun (D : Drawn) (n : Nat) (g : AH) => call_hook (P := Try.prog) (D := D) k49 n (args := [.str s_, .int .i64 at_, .int .i64 n_]) (v := .tup [.str y2.1, .int .i64 y2.2]) ((kf_49_eq s_ at_ n_).trans (by rw [qy2]; rfl)) g
  refine AE_joinR (fun e h' => h = h' ∧ e.length = 35 ∧ e.getD 8 .undef = .str y2.1 ∧ e.getD 9 .undef = .int .i64 y2.2) (by
    simp only [↓WE, WA, WL, aop, ofValue, ofCell, isConst, abin, acall1, abuiltin, aun, AV.cells, AV.one, Nat.reduceAdd, Int.reduceLT, Int.reduceLE, ↓WD, W0, evalOp, Nat.reduceEqDiff, Nat.reduceLT, ↓reduceIte, reduceCtorEq, hl, e0, e1, e2, og3]
    exact ⟨rfl, (by simp only [List.length_set, hl]), (by simp only [W0, Nat.reduceEqDiff, Nat.reduceLT, ↓reduceIte, hl, e0, e1, e2]), (by simp only [W0, Nat.reduceEqDiff, Nat.reduceLT, ↓reduceIte, hl, e0, e1, e2])⟩) ?_
  rintro envg4 _ ⟨rfl, hl, e8, e9⟩
  try simp only [↓WD, W0, evalOp, Nat.reduceEqDiff, Nat.reduceLT, ↓reduceIte, reduceCtorEq, hl, e8, e9]
  rw [AW_region]
  refine AE_joinR (fun e h' => h = h' ∧ e.length = 35 ∧ e.getD 8 .undef = .str y2.1 ∧ e.getD 9 .undef = .int .i64 y2.2 ∧ e.getD 10 .undef = .int .u64 0) (by
    simp only [↓WE, WA, WL, aop, ofValue, ofCell, isConst, abin, acall1, abuiltin, aun, AV.cells, AV.one, Nat.reduceAdd, Int.reduceLT, Int.reduceLE, ↓WD, W0, evalOp, Nat.reduceEqDiff, Nat.reduceLT, ↓reduceIte, reduceCtorEq, hl, e8, e9]
    exact ⟨rfl, (by simp only [List.length_set, hl]), (by simp only [W0, Nat.reduceEqDiff, Nat.reduceLT, ↓reduceIte, hl, e8, e9]), (by simp only [W0, Nat.reduceEqDiff, Nat.reduceLT, ↓reduceIte, hl, e8, e9]), (by simp only [W0, Nat.reduceEqDiff, Nat.reduceLT, ↓reduceIte, hl, e8, e9])⟩) ?_
  rintro envg5 _ ⟨rfl, hl, e8, e9, e10⟩
  try simp only [↓WD, W0, evalOp, Nat.reduceEqDiff, Nat.reduceLT, ↓reduceIte, reduceCtorEq, hl, e8, e9, e10]
  rw [AW_region]
  have ol6 := fun g : AH => alen_str (P := Try.prog) (h := g) (l := y2.1) Try.underlying9
  refine AE_joinR (fun e h' => h = h' ∧ e.length = 35 ∧ e.getD 8 .undef = .str y2.1 ∧ e.getD 9 .undef = .int .i64 y2.2 ∧ e.getD 10 .undef = .int .u64 0 ∧ e.getD 11 .undef = .int .i64 (IntKind.i64.wrap ((y2.1.length : Int) - 1))) (by
    simp only [↓WE, WA, WL, aop, ofValue, ofCell, isConst, abin, acall1, abuiltin, aun, AV.cells, AV.one, Nat.reduceAdd, Int.reduceLT, Int.reduceLE, ↓WD, W0, evalOp, Nat.reduceEqDiff, Nat.reduceLT, ↓reduceIte, reduceCtorEq, hl, e8, e9, e10, ol6]
    exact ⟨rfl, (by simp only [List.length_set, hl]), (by simp only [W0, Nat.reduceEqDiff, Nat.reduceLT, ↓reduceIte, hl, e8, e9, e10]), (by simp only [W0, Nat.reduceEqDiff, Nat.reduceLT, ↓reduceIte, hl, e8, e9, e10]), (by simp only [W0, Nat.reduceEqDiff, Nat.reduceLT, ↓reduceIte, hl, e8, e9, e10]), (by simp only [W0, Nat.reduceEqDiff, Nat.reduceLT, ↓reduceIte, hl, e8, e9, e10])⟩) ?_
  rintro envg7 _ ⟨rfl, hl, e8, e9, e10, e11⟩
  try simp only [↓WD, W0, evalOp, Nat.reduceEqDiff, Nat.reduceLT, ↓reduceIte, reduceCtorEq, hl, e8, e9, e10, e11]
  obtain ⟨r26, qr26, hF⟩ := obind hF
  refine AW_lift (L_ref02_Num_1 y2) (fun s e h' => e.length = 35 ∧ e.getD 8 .undef = .str y2.1 ∧ e.getD 9 .undef = .int .i64 y2.2 ∧ e.getD 10 .undef = .int .u64 s.1 ∧ e.getD 11 .undef = .int .i64 s.2 ∧ Sep h [] h' []) (fun r26 x e h' => x = .exit 0 ∧ e.length = 35 ∧ e.getD 9 .undef = .int .i64 y2.2 ∧ e.getD 10 .undef = .int .u64 r26 ∧ Sep h [] h' []) qr26 (by omega) ?_ ?_ ?_
  · rintro s envr26 h17 or26 ⟨hl, e8, e9, e10, e11, S18⟩ wr26
    rw [L_ref02_Num_1] at wr26
    try simp only [↓WD, W0, evalOp, Nat.reduceEqDiff, Nat.reduceLT, ↓reduceIte, reduceCtorEq, hl, e8, e9, e10, e11]
    rw [AW_region]
    refine AE_joinR (fun e h' => h17 = h' ∧ e.length = 35 ∧ e.getD 8 .undef = .str y2.1 ∧ e.getD 9 .undef = .int .i64 y2.2 ∧ e.getD 10 .undef = .int .u64 s.1 ∧ e.getD 11 .undef = .int .i64 s.2 ∧ e.getD 23 .undef = .bool (decide (s.2 ≥ 0))) (by
      simp only [↓WE, WA, WL, aop, ofValue, ofCell, isConst, abin, acall1, abuiltin, aun, AV.cells, AV.one, Nat.reduceAdd, Int.reduceLT, Int.reduceLE, ↓WD, W0, evalOp, Nat.reduceEqDiff, Nat.reduceLT, ↓reduceIte, reduceCtorEq, hl, e8, e9, e10, e11]
      exact ⟨rfl, (by simp only [List.length_set, hl]), (by simp only [W0, Nat.reduceEqDiff, Nat.reduceLT, ↓reduceIte, hl, e8, e9, e10, e11]), (by simp only [W0, Nat.reduceEqDiff, Nat.reduceLT, ↓reduceIte, hl, e8, e9, e10, e11]), (by simp only [W0, Nat.reduceEqDiff, Nat.reduceLT, ↓reduceIte, hl, e8, e9, e10, e11]), (by simp only [W0, Nat.reduceEqDiff, Nat.reduceLT, ↓reduceIte, hl, e8, e9, e10, e11]), (by simp only [W0, Nat.reduceEqDiff, Nat.reduceLT, ↓reduceIte, hl, e8, e9, e10, e11])⟩) ?_
    rintro envg19 _ ⟨rfl, hl, e8, e9, e10, e11, e23⟩
    try simp only [↓WD, W0, evalOp, Nat.reduceEqDiff, Nat.reduceLT, ↓reduceIte, reduceCtorEq, hl, e8, e9, e10, e11, e23]
    refine CondK_dec (fun c21 => ?_) (fun c21 => ?_)
    · rw [if_pos c21] at wr26
      try simp only [↓WD, W0, evalOp, Nat.reduceEqDiff, Nat.reduceLT, ↓reduceIte, reduceCtorEq, hl, e8, e9, e10, e11, e23]
      rw [AW_region]
      obtain ⟨c22, qc22, wr26⟩ := obind wr26
      have oc22 := idx_str (P := Try.prog) (k := .i64) Try.underlying9 qc22
      have oc23 := fun g : AH => aconv_int (P := Try.prog) (h := g) (n := c22) (k' := .u8) Try.underlying5 Try.underlying25
      refine AE_joinR (fun e h' => h17 = h' ∧ e.length = 35 ∧ e.getD 8 .undef = .str y2.1 ∧ e.getD 9 .undef = .int .i64 y2.2 ∧ e.getD 10 .undef = .int .u64 (IntKind.u64.wrap ((IntKind.u64.wrap (256 * s.1)) + (IntKind.u64.wrap c22))) ∧ e.getD 11 .undef = .int .i64 s.2) (by
        simp only [↓WE, WA, WL, aop, ofValue, ofCell, isConst, abin, acall1, abuiltin, aun, AV.cells, AV.one, Nat.reduceAdd, Int.reduceLT, Int.reduceLE, ↓WD, W0, evalOp, Nat.reduceEqDiff, Nat.reduceLT, ↓reduceIte, reduceCtorEq, hl, e8, e9, e10, e11, e23, oc22, oc23]
        exact ⟨rfl, (by simp only [List.length_set, hl]), (by simp only [W0, Nat.reduceEqDiff, Nat.reduceLT, ↓reduceIte, hl, e8, e9, e10, e11, e23]), (by simp only [W0, Nat.reduceEqDiff, Nat.reduceLT, ↓reduceIte, hl, e8, e9, e10, e11, e23]), (by simp only [W0, Nat.reduceEqDiff, Nat.reduceLT, ↓reduceIte, hl, e8, e9, e10, e11, e23]), (by simp only [W0, Nat.reduceEqDiff, Nat.reduceLT, ↓reduceIte, hl, e8, e9, e10, e11, e23])⟩) ?_
      rintro envg24 _ ⟨rfl, hl, e8, e9, e10, e11⟩
      try simp only [↓WD, W0, evalOp, Nat.reduceEqDiff, Nat.reduceLT, ↓reduceIte, reduceCtorEq, hl, e8, e9, e10, e11]
      rw [AW_region]
      refine AE_joinR (fun e h' => h17 = h' ∧ e.length = 35 ∧ e.getD 8 .undef = .str y2.1 ∧ e.getD 9 .undef = .int .i64 y2.2 ∧ e.getD 10 .undef = .int .u64 (IntKind.u64.wrap ((IntKind.u64.wrap (256 * s.1)) + (IntKind.u64.wrap c22))) ∧ e.getD 11 .undef = .int .i64 (IntKind.i64.wrap (s.2 - 1))) (by
        simp only [↓WE, WA, WL, aop, ofValue, ofCell, isConst, abin, acall1, abuiltin, aun, AV.cells, AV.one, Nat.reduceAdd, Int.reduceLT, Int.reduceLE, ↓WD, W0, evalOp, Nat.reduceEqDiff, Nat.reduceLT, ↓reduceIte, reduceCtorEq, hl, e8, e9, e10, e11]
        exact ⟨rfl, (by simp only [List.length_set, hl]), (by simp only [W0, Nat.reduceEqDiff, Nat.reduceLT, ↓reduceIte, hl, e8, e9, e10, e11]), (by simp only [W0, Nat.reduceEqDiff, Nat.reduceLT, ↓reduceIte, hl, e8, e9, e10, e11]), (by simp only [W0, Nat.reduceEqDiff, Nat.reduceLT, ↓reduceIte, hl, e8, e9, e10, e11]), (by simp only [W0, Nat.reduceEqDiff, Nat.reduceLT, ↓reduceIte, hl, e8, e9, e10, e11])⟩) ?_
      rintro envg25 _ ⟨rfl, hl, e8, e9, e10, e11⟩
      try simp only [↓WD, W0, evalOp, Nat.reduceEqDiff, Nat.reduceLT, ↓reduceIte, reduceCtorEq, hl, e8, e9, e10, e11]
      obtain rfl := Option.some.inj wr26
      rw [KP_nil, QL_normal]
      exact ⟨_, rfl, (by simp only [List.length_set, hl]), (by simp only [W0, Nat.reduceEqDiff, Nat.reduceLT, ↓reduceIte, hl, e8, e9, e10, e11]), (by simp only [W0, Nat.reduceEqDiff, Nat.reduceLT, ↓reduceIte, hl, e8, e9, e10, e11]), (by simp only [W0, Nat.reduceEqDiff, Nat.reduceLT, ↓reduceIte, hl, e8, e9, e10, e11]), (by simp only [W0, Nat.reduceEqDiff, Nat.reduceLT, ↓reduceIte, hl, e8, e9, e10, e11]), S18⟩
    · rw [if_neg c21] at wr26
      try simp only [↓WD, W0, evalOp, Nat.reduceEqDiff, Nat.reduceLT, ↓reduceIte, reduceCtorEq, hl, e8, e9, e10, e11, e23]
      obtain rfl := Option.some.inj wr26
      rw [KP_nil, QL_exit]
      exact ⟨_, rfl, rfl, (by simp only [List.length_set, hl]), (by simp only [W0, Nat.reduceEqDiff, Nat.reduceLT, ↓reduceIte, hl, e8, e9, e10, e11, e23]), (by simp only [W0, Nat.reduceEqDiff, Nat.reduceLT, ↓reduceIte, hl, e8, e9, e10, e11, e23]), S18⟩
  · exact ⟨(by simp only [List.length_set, hl]), (by simp only [W0, Nat.reduceEqDiff, Nat.reduceLT, ↓reduceIte, hl, e8, e9, e10, e11]), (by simp only [W0, Nat.reduceEqDiff, Nat.reduceLT, ↓reduceIte, hl, e8, e9, e10, e11]), (by simp only [W0, Nat.reduceEqDiff, Nat.reduceLT, ↓reduceIte, hl, e8, e9, e10, e11]), (by simp only [W0, Nat.reduceEqDiff, Nat.reduceLT, ↓reduceIte, hl, e8, e9, e10, e11]), S0⟩
  · rintro x envr26 h27 ⟨rfl, hl, e9, e10, S28⟩
    try simp only [↓WD, W0, evalOp, Nat.reduceEqDiff, Nat.reduceLT, ↓reduceIte, reduceCtorEq, hl, e9, e10]
    rw [AW_region]
    refine AE_joinR (fun e h' => h27 = h' ∧ e.length = 35 ∧ e.getD 6 .undef = .int .u64 r26 ∧ e.getD 7 .undef = .int .i64 y2.2) (by
      simp only [↓WE, WA, WL, aop, ofValue, ofCell, isConst, abin, acall1, abuiltin, aun, AV.cells, AV.one, Nat.reduceAdd, Int.reduceLT, Int.reduceLE, ↓WD, W0, evalOp, Nat.reduceEqDiff, Nat.reduceLT, ↓reduceIte, reduceCtorEq, hl, e9, e10]
      exact ⟨rfl, (by simp only [List.length_set, hl]), (by simp only [W0, Nat.reduceEqDiff, Nat.reduceLT, ↓reduceIte, hl, e9, e10]), (by simp only [W0, Nat.reduceEqDiff, Nat.reduceLT, ↓reduceIte, hl, e9, e10])⟩) ?_
    rintro envg29 _ ⟨rfl, hl, e6, e7⟩
    try simp only [↓WD, W0, evalOp, Nat.reduceEqDiff, Nat.reduceLT, ↓reduceIte, reduceCtorEq, hl, e6, e7]
    refine KP_ret (vs := [.int .u64 r26, .int .i64 y2.2]) (by simp only [aresults, aresult, gs, List.length_set, Nat.reduceEqDiff, Nat.reduceLT, ↓reduceIte, hl, e6, e7]) ?_
    obtain rfl := Option.some.inj hF
    exact rfl
set_option maxRecDepth 100000 in
set_option maxHeartbeats 4000000 in
theorem W_ref02_U16 {K : PureK} (k53 : K 53 = some kf_53) (n48 : K 48 = none) (m : Nat) (hm : NF + 1 ≤ m) (h : AH) (s_ : List UInt8) (at_ : Int) {r : Int} (hF : F_ref02_U16 s_ at_ = some r) :
    AR (acall Try.prog (hooksOf K) (drawnOf Try.prog (tabOf K)) m 48 [.str s_, .int .i64 at_] h) (fun v h' => v = .int .i64 r) := by
  obtain ⟨m, rfl⟩ : ∃ k, m = k + 1 := ⟨m - 1, by omega⟩
  refine AR_call (hooksOf_none n48) Try.func48 rfl _ _ fun env hl he => ?_
  have e0 := he 0
  have e1 := he 1
  simp only [List.getD_cons_zero, List.getD_cons_succ] at e0 e1
  simp only [Try.f48] at hl ⊢
  simp only [List.length_cons, List.length_nil, Nat.reduceAdd, Nat.reduceSub] at hl
  clear he
  have S0 : Sep h [] h [] := Sep.nil h
  rw [F_ref02_U16] at hF
  try simp only [↓WD, W0, evalOp, Nat.reduceEqDiff, Nat.reduceLT, ↓reduceIte, reduceCtorEq, hl, e0, e1]
  rw [AW_region]
  refine AE_joinR (fun e h' => h = h' ∧ e.length = 15 ∧ e.getD 0 .undef = .str s_ ∧ e.getD 1 .undef = .int .i64 at_) (by
    simp only [↓WE, WA, WL, aop, ofValue, ofCell, isConst, abin, acall1, abuiltin, aun, AV.cells, AV.one, Nat.reduceAdd, Int.reduceLT, Int.reduceLE, ↓WD, W0, evalOp, Nat.reduceEqDiff, Nat.reduceLT, ↓reduceIte, reduceCtorEq, hl, e0, e1]
    exact ⟨rfl, (by simp only [List.length_set, hl]), (by simp only [W0, Nat.reduceEqDiff, Nat.reduceLT, ↓reduceIte, hl, e0, e1]), (by simp only [W0, Nat.reduceEqDiff, Nat.reduceLT, ↓reduceIte, hl, e0, e1])⟩) ?_
  rintro envg1 _ ⟨rfl, hl, e0, e1⟩
  try simp only [↓WD, W0, evalOp, Nat.reduceEqDiff, Nat.reduceLT, ↓reduceIte, reduceCtorEq, hl, e0, e1]
  rw [AW_region]
  obtain ⟨y2, qy2, hF⟩ := obind hF
  have og3 := fun (D : Drawn) (n : Nat) (g : AH) => call_hook (P := Try.prog) (D := D) k53 n (args := [.str s_, .int .i64 at_, .int .i64 2]) (v := .tup [.int .u64 y2.1, .int .i64 y2.2]) ((kf_53_eq s_ at_ 2).trans (by rw [qy2]; rfl)) g
  refine AE_joinR (fun e h' => h = h' ∧ e.length = 15 ∧ e.getD 5 .undef = .int .u64 y2.1) (by
    simp only [↓WE, WA, WL, aop, ofValue, ofCell, isConst, abin, acall1, abuiltin, aun, AV.cells, AV.one, Nat.reduceAdd, Int.reduceLT, Int.reduceLE, ↓WD, W0, evalOp, Nat.reduceEqDiff, Nat.reduceLT, ↓reduceIte, reduceCtorEq, hl, e0, e1, og3]
    exact ⟨rfl, (by simp only [List.length_set, hl]), (by simp only [W0, Nat.reduceEqDiff, Nat.reduceLT, ↓reduceIte, hl, e0, e1])⟩) ?_
  rintro envg4 _ ⟨rfl, hl, e5⟩
  try simp only [↓WD, W0, evalOp, Nat.reduceEqDiff, Nat.reduceLT, ↓reduceIte, reduceCtorEq, hl, e5]
  rw [AW_region]
  have oc5 := fun g : AH => aconv_int (P := Try.prog) (h := g) (n := y2.1) (k' := .u64) Try.underlying25 Try.underlying3
  refine AE_joinR (fun e h' => h = h' ∧ e.length = 15 ∧ e.getD 4 .undef = .int .i64 (IntKind.i64.wrap y2.1)) (by
    simp only [↓WE, WA, WL, aop, ofValue, ofCell, isConst, abin, acall1, abuiltin, aun, AV.cells, AV.one, Nat.reduceAdd, Int.reduceLT, Int.reduceLE, ↓WD, W0, evalOp, Nat.reduceEqDiff, Nat.reduceLT, ↓reduceIte, reduceCtorEq, hl, e5, oc5]
    exact ⟨rfl, (by simp only [List.length_set, hl]), (by simp only [W0, Nat.reduceEqDiff, Nat.reduceLT, ↓reduceIte, hl, e5])⟩) ?_
  rintro envg6 _ ⟨rfl, hl, e4⟩
  try simp only [↓WD, W0, evalOp, Nat.reduceEqDiff, Nat.reduceLT, ↓reduceIte, reduceCtorEq, hl, e4]
  refine KP_ret (vs := [.int .i64 (IntKind.i64.wrap y2.1)]) (by simp only [aresults, aresult, gs, List.length_set, Nat.reduceEqDiff, Nat.reduceLT, ↓reduceIte, hl, e4]) ?_
  obtain rfl := Option.some.inj hF
  exact rfl
set_option maxRecDepth 100000 in
set_option maxHeartbeats 4000000 in
theorem W_ref02_U32 {K : PureK} (k53 : K 53 = some kf_53) (n59 : K 59 = none) (m : Nat) (hm : NF + 1 ≤ m) (h : AH) (s_ : List UInt8) (at_ : Int) {r : Int} (hF : F_ref02_U32 s_ at_ = some r) :
    AR (acall Try.prog (hooksOf K) (drawnOf Try.prog (tabOf K)) m 59 [.str s_, .int .i64 at_] h) (fun v h' => v = .int .i64 r) := by
  obtain ⟨m, rfl⟩ : ∃ k, m = k + 1 := ⟨m - 1, by omega⟩
  refine AR_call (hooksOf_none n59) Try.func59 rfl _ _ fun env hl he => ?_
  have e0 := he 0
  have e1 := he 1
  simp only [List.getD_cons_zero, List.getD_cons_succ] at e0 e1
  simp only [Try.f59] at hl ⊢
  simp only [List.length_cons, List.length_nil, Nat.reduceAdd, Nat.reduceSub] at hl
  clear he
  have S0 : Sep h [] h [] := Sep.nil h
  rw [F_ref02_U32] at hF
  try simp only [↓WD, W0, evalOp, Nat.reduceEqDiff, Nat.reduceLT, ↓reduceIte, reduceCtorEq, hl, e0, e1]
  rw [AW_region]
  refine AE_joinR (fun e h' => h = h' ∧ e.length = 15 ∧ e.getD 0 .undef = .str s_ ∧ e.getD 1 .undef = .int .i64 at_) (by
    simp only [↓WE, WA, WL, aop, ofValue, ofCell, isConst, abin, acall1, abuiltin, aun, AV.cells, AV.one, Nat.reduceAdd, Int.reduceLT, Int.reduceLE, ↓WD, W0, evalOp, Nat.reduceEqDiff, Nat.reduceLT, ↓reduceIte, reduceCtorEq, hl, e0, e1]
    exact ⟨rfl, (by simp only [List.length_set, hl]), (by simp only [W0, Nat.reduceEqDiff, Nat.reduceLT, ↓reduceIte, hl, e0, e1]), (by simp only [W0, Nat.reduceEqDiff, Nat.reduceLT, ↓reduceIte, hl, e0, e1])⟩) ?_
  rintro envg1 _ ⟨rfl, hl, e0, e1⟩
  try simp only [↓WD, W0, evalOp, Nat.reduceEqDiff, Nat.reduceLT, ↓reduceIte, reduceCtorEq, hl, e0, e1]
  rw [AW_region]
  obtain ⟨y2, qy2, hF⟩ := obind hF
  have og3 := fun (D : Drawn) (n : Nat) (g : AH) => call_hook (P := Try.prog) (D := D) k53 n (args := [.str s_, .int .i64 at_, .int .i64 4]) (v := .tup [.int .u64 y2.1, .int .i64 y2.2]) ((kf_53_eq s_ at_ 4).trans (by rw [qy2]; rfl)) g
  refine AE_joinR (fun e h' => h = h' ∧ e.length = 15 ∧ e.getD 5 .undef = .int .u64 y2.1) (by
    simp only [↓WE, WA, WL, aop, ofValue, ofCell, isConst, abin, acall1, abuiltin, aun, AV.cells, AV.one, Nat.reduceAdd, Int.reduceLT, Int.reduceLE, ↓WD, W0, evalOp, Nat.reduceEqDiff, Nat.reduceLT, ↓reduceIte, reduceCtorEq, hl, e0, e1, og3]
    exact ⟨rfl, (by simp only [List.length_set, hl]), (by simp only [W0, Nat.reduceEqDiff, Nat.reduceLT, ↓reduceIte, hl, e0, e1])⟩) ?_
  rintro envg4 _ ⟨rfl, hl, e5⟩
  try simp only [↓WD, W0, evalOp, Nat.reduceEqDiff, Nat.reduceLT, ↓reduceIte, reduceCtorEq, hl, e5]
  rw [AW_region]
  have oc5 := fun g : AH => aconv_int (P := Try.prog) (h := g) (n := y2.1) (k' := .u64) Try.underlying25 Try.underlying3
  refine AE_joinR (fun e h' => h = h' ∧ e.length = 15 ∧ e.getD 4 .undef = .int .i64 (IntKind.i64.wrap y2.1)) (by
    simp only [↓WE, WA, WL, aop, ofValue, ofCell, isConst, abin, acall1, abuiltin, aun, AV.cells, AV.one, Nat.reduceAdd, Int.reduceLT, Int.reduceLE, ↓WD, W0, evalOp, Nat.reduceEqDiff, Nat.reduceLT, ↓reduceIte, reduceCtorEq, hl, e5, oc5]
    exact ⟨rfl, (by simp only [List.length_set, hl]), (by simp only [W0, Nat.reduceEqDiff, Nat.reduceLT, ↓reduceIte, hl, e5])⟩) ?_
  rintro envg6 _ ⟨rfl, hl, e4⟩
  try simp only [↓WD, W0, evalOp, Nat.reduceEqDiff, Nat.reduceLT, ↓reduceIte, reduceCtorEq, hl, e4]
  refine KP_ret (vs := [.int .i64 (IntKind.i64.wrap y2.1)]) (by simp only [aresults, aresult, gs, List.length_set, Nat.reduceEqDiff, Nat.reduceLT, ↓reduceIte, hl, e4]) ?_
  obtain rfl := Option.some.inj hF
  exact rfl
set_option maxRecDepth 100000 in
set_option maxHeartbeats 4000000 in
theorem W_field_P64 {K : PureK} (k45 : K 45 = some kf_45) (n15 : K 15 = none) (m : Nat) (hm : NF + 1 ≤ m) (h : AH) (n_ : Int) {r : (List UInt8)} (hF : F_field_P64 n_ = some r) :
    AR (acall Try.prog (hooksOf K) (drawnOf Try.prog (tabOf K)) m 15 [.int .u64 n_] h) (fun v h' => v = .str r) := by
  obtain ⟨m, rfl⟩ : ∃ k, m = k + 1 := ⟨m - 1, by omega⟩
  refine AR_call (hooksOf_none n15) Try.func15 rfl _ _ fun env hl he => ?_
  have e0 := he 0
  simp only [List.getD_cons_zero, List.getD_cons_succ] at e0
  simp only [Try.f15] at hl ⊢
  simp only [List.length_cons, List.length_nil, Nat.reduceAdd, Nat.reduceSub] at hl
  clear he
  have S0 : Sep h [] h [] := Sep.nil h
  rw [F_field_P64] at hF
  try simp only [↓WD, W0, evalOp, Nat.reduceEqDiff, Nat.reduceLT, ↓reduceIte, reduceCtorEq, hl, e0]
  rw [AW_region]
  refine AE_joinR (fun e h' => h = h' ∧ e.length = 5 ∧ e.getD 0 .undef = .int .u64 n_) (by
    simp only [↓WE, WA, WL, aop, ofValue, ofCell, isConst, abin, acall1, abuiltin, aun, AV.cells, AV.one, Nat.reduceAdd, Int.reduceLT, Int.reduceLE, ↓WD, W0, evalOp, Nat.reduceEqDiff, Nat.reduceLT, ↓reduceIte, reduceCtorEq, hl, e0]
    exact ⟨rfl, (by simp only [List.length_set, hl]), (by simp only [W0, Nat.reduceEqDiff, Nat.reduceLT, ↓reduceIte, hl, e0])⟩) ?_
  rintro envg1 _ ⟨rfl, hl, e0⟩
  try simp only [↓WD, W0, evalOp, Nat.reduceEqDiff, Nat.reduceLT, ↓reduceIte, reduceCtorEq, hl, e0]
  rw [AW_region]
  obtain ⟨y2, qy2, hF⟩ := obind hF
  have og3 := fun (D : Drawn) (n : Nat) (g : AH) => call_hook (P := Try.prog) (D := D) k45 n (args := [.int .u64 n_, .int .i64 8]) (v := .str y2) ((kf_45_eq n_ 8).trans (by rw [qy2]; rfl)) g
  refine AE_joinR (fun e h' => h = h' ∧ e.length = 5 ∧ e.getD 2 .undef = .str y2) (by
    simp only [↓WE, WA, WL, aop, ofValue, ofCell, isConst, abin, acall1, abuiltin, aun, AV.cells, AV.one, Nat.reduceAdd, Int.reduceLT, Int.reduceLE, ↓WD, W0, evalOp, Nat.reduceEqDiff, Nat.reduceLT, ↓reduceIte, reduceCtorEq, hl, e0, og3]
    exact ⟨rfl, (by simp only [List.length_set, hl]), (by simp only [W0, Nat.reduceEqDiff, Nat.reduceLT, ↓reduceIte, hl, e0])⟩) ?_
  rintro envg4 _ ⟨rfl, hl, e2⟩
  try simp only [↓WD, W0, evalOp, Nat.reduceEqDiff, Nat.reduceLT, ↓reduceIte, reduceCtorEq, hl, e2]
  refine KP_ret (vs := [.str y2]) (by simp only [aresults, aresult, gs, List.length_set, Nat.reduceEqDiff, Nat.reduceLT, ↓reduceIte, hl, e2]) ?_
  obtain rfl := Option.some.inj hF
  exact rfl
set_option maxRecDepth 100000 in
set_option maxHeartbeats 4000000 in
theorem W_extra_Wide {K : PureK} (k15 : K 15 = some kf_15) (k77 : K 77 = some hb77) (n50 : K 50 = none) (n52 : K 52 = none) (n69 : K 69 = none) (n30 : K 30 = none) (m : Nat) (hm : NF + 4 ≤ m) (h : AH) (un_ : AV) (n_ : List Int) (hun_ : RO 1 un_ h (n_.map (cellI .i64))) {r : Gapi_Extra} (hF : F_extra_Wide n_ = some r) :
    AR (acall Try.prog (hooksOf K) (drawnOf Try.prog (tabOf K)) m 30 [un_] h) (fun v h' => v = .agg [.int .i64 r.xID, .str r.xData] ∧ Sep h [] h' []) := by
  obtain ⟨m, rfl⟩ : ∃ k, m = k + 1 := ⟨m - 1, by omega⟩
  refine AR_call (hooksOf_none n30) Try.func30 rfl _ _ fun env hl he => ?_
  have e0 := he 0
  simp only [List.getD_cons_zero, List.getD_cons_succ] at e0
  simp only [Try.f30] at hl ⊢
  simp only [List.length_cons, List.length_nil, Nat.reduceAdd, Nat.reduceSub] at hl
  clear he
  have S0 : Sep h [] h [] := Sep.nil h
  rw [F_extra_Wide] at hF
  try simp only [↓WD, W0, evalOp, Nat.reduceEqDiff, Nat.reduceLT, ↓reduceIte, reduceCtorEq, hl, e0]
  rw [AW_region]
  obtain ⟨i1, h2, oa3, S4⟩ := S0.alloc 47 [.int .i64 0, .str []]
  have S6 : Sep h [] h2 [.blk i1 [.int .i64 0, .str []] 47] := S4
  refine AE_joinR (fun e h' => h2 = h' ∧ e.length = 19 ∧ e.getD 0 .undef = un_ ∧ e.getD 2 .undef = .ptr i1 0) (by
    simp only [↓WE, WA, WL, aop, ofValue, ofCell, isConst, abin, acall1, abuiltin, aun, AV.cells, AV.one, Nat.reduceAdd, Int.reduceLT, Int.reduceLE, ↓WD, W0, evalOp, Nat.reduceEqDiff, Nat.reduceLT, ↓reduceIte, reduceCtorEq, hl, e0, zero_47, oa3]
    exact ⟨rfl, (by simp only [List.length_set, hl]), (by simp only [W0, Nat.reduceEqDiff, Nat.reduceLT, ↓reduceIte, hl, e0]), (by simp only [W0, Nat.reduceEqDiff, Nat.reduceLT, ↓reduceIte, hl, e0])⟩) ?_
  rintro envg7 _ ⟨rfl, hl, e0, e2⟩
  try simp only [↓WD, W0, evalOp, Nat.reduceEqDiff, Nat.reduceLT, ↓reduceIte, reduceCtorEq, hl, e0, e2]
  rw [AW_region]
  obtain ⟨i8, h9, oa10, S11⟩ := S6.allocB
  have S13 : Sep h [] h9 [.blk i1 [.int .i64 0, .str []] 47, .bld i8 (.val (.pointer none)) (.val (.slice none 0 0)) 88 5 ([] : List UInt8)] := S11
  refine AE_joinR (fun e h' => h9 = h' ∧ e.length = 19 ∧ e.getD 0 .undef = un_ ∧ e.getD 2 .undef = .ptr i1 0 ∧ e.getD 3 .undef = .ptr i8 0) (by
    simp only [↓WE, WA, WL, aop, ofValue, ofCell, isConst, abin, acall1, abuiltin, aun, AV.cells, AV.one, Nat.reduceAdd, Int.reduceLT, Int.reduceLE, ↓WD, W0, evalOp, Nat.reduceEqDiff, Nat.reduceLT, ↓reduceIte, reduceCtorEq, hl, e0, e2, zero_88, oa10]
    exact ⟨rfl, (by simp only [List.length_set, hl]), (by simp only [W0, Nat.reduceEqDiff, Nat.reduceLT, ↓reduceIte, hl, e0, e2]), (by simp only [W0, Nat.reduceEqDiff, Nat.reduceLT, ↓reduceIte, hl, e0, e2]), (by simp only [W0, Nat.reduceEqDiff, Nat.reduceLT, ↓reduceIte, hl, e0, e2])⟩) ?_
  rintro envg14 _ ⟨rfl, hl, e0, e2, e3⟩
  try simp only [↓WD, W0, evalOp, Nat.reduceEqDiff, Nat.reduceLT, ↓reduceIte, reduceCtorEq, hl, e0, e2, e3]
  rw [AW_region]
  have ol15 := RO.len (P := Try.prog) sl_52 (S13.ro hun_)
  rw [List.length_map] at ol15
  refine AE_joinR (fun e h' => h9 = h' ∧ e.length = 19 ∧ e.getD 2 .undef = .ptr i1 0 ∧ e.getD 3 .undef = .ptr i8 0 ∧ e.getD 6 .undef = un_ ∧ e.getD 7 .undef = .int .i64 (n_.length : Int) ∧ e.getD 8 .undef = .int .i64 0) (by
    simp only [↓WE, WA, WL, aop, ofValue, ofCell, isConst, abin, acall1, abuiltin, aun, AV.cells, AV.one, Nat.reduceAdd, Int.reduceLT, Int.reduceLE, ↓WD, W0, evalOp, Nat.reduceEqDiff, Nat.reduceLT, ↓reduceIte, reduceCtorEq, hl, e0, e2, e3, ol15]
    exact ⟨rfl, (by simp only [List.length_set, hl]), (by simp only [W0, Nat.reduceEqDiff, Nat.reduceLT, ↓reduceIte, hl, e0, e2, e3]), (by simp only [W0, Nat.reduceEqDiff, Nat.reduceLT, ↓reduceIte, hl, e0, e2, e3]), (by simp only [W0, Nat.reduceEqDiff, Nat.reduceLT, ↓reduceIte, hl, e0, e2, e3]), (by simp only [W0, Nat.reduceEqDiff, Nat.reduceLT, ↓reduceIte, hl, e0, e2, e3]), (by simp only [W0, Nat.reduceEqDiff, Nat.reduceLT, ↓reduceIte, hl, e0, e2, e3])⟩) ?_
  rintro envg16 _ ⟨rfl, hl, e2, e3, e6, e7, e8⟩
  try simp only [↓WD, W0, evalOp, Nat.reduceEqDiff, Nat.reduceLT, ↓reduceIte, reduceCtorEq, hl, e2, e3, e6, e7, e8]
  obtain ⟨r71, qr71, hF⟩ := obind hF
  refine AW_lift (L_extra_Wide_1 n_) (fun s e h' => ∃ (p43 : AV), ∃ (u44 : AV), e.length = 19 ∧ e.getD 2 .undef = .ptr i1 0 ∧ e.getD 3 .undef = .ptr i8 0 ∧ e.getD 6 .undef = un_ ∧ e.getD 7 .undef = .int .i64 (n_.length : Int) ∧ e.getD 8 .undef = .int .i64 s.2 ∧ Sep h [] h' [.blk i1 [.int .i64 0, .str []] 47, .bld i8 p43 u44 88 5 s.1]) (fun r71 x e h' => ∃ (p72 : AV), ∃ (u73 : AV), x = .exit 0 ∧ e.length = 19 ∧ e.getD 2 .undef = .ptr i1 0 ∧ e.getD 3 .undef = .ptr i8 0 ∧ Sep h [] h' [.blk i1 [.int .i64 0, .str []] 47, .bld i8 p72 u73 88 5 r71]) qr71 (by omega) ?_ ?_ ?_
  · rintro s envr71 h45 or71 ⟨p43, u44, hl, e2, e3, e6, e7, e8, S46⟩ wr71
    rw [L_extra_Wide_1] at wr71
    try simp only [↓WD, W0, evalOp, Nat.reduceEqDiff, Nat.reduceLT, ↓reduceIte, reduceCtorEq, hl, e2, e3, e6, e7, e8]
    rw [AW_region]
    refine AE_joinR (fun e h' => h45 = h' ∧ e.length = 19 ∧ e.getD 2 .undef = .ptr i1 0 ∧ e.getD 3 .undef = .ptr i8 0 ∧ e.getD 6 .undef = un_ ∧ e.getD 7 .undef = .int .i64 (n_.length : Int) ∧ e.getD 8 .undef = .int .i64 s.2 ∧ e.getD 9 .undef = .bool (decide (s.2 < (n_.length : Int)))) (by
      simp only [↓WE, WA, WL, aop, ofValue, ofCell, isConst, abin, acall1, abuiltin, aun, AV.cells, AV.one, Nat.reduceAdd, Int.reduceLT, Int.reduceLE, ↓WD, W0, evalOp, Nat.reduceEqDiff, Nat.reduceLT, ↓reduceIte, reduceCtorEq, hl, e2, e3, e6, e7, e8]
      exact ⟨rfl, (by simp only [List.length_set, hl]), (by simp only [W0, Nat.reduceEqDiff, Nat.reduceLT, ↓reduceIte, hl, e2, e3, e6, e7, e8]), (by simp only [W0, Nat.reduceEqDiff, Nat.reduceLT, ↓reduceIte, hl, e2, e3, e6, e7, e8]), (by simp only [W0, Nat.reduceEqDiff, Nat.reduceLT, ↓reduceIte, hl, e2, e3, e6, e7, e8]), (by simp only [W0, Nat.reduceEqDiff, Nat.reduceLT, ↓reduceIte, hl, e2, e3, e6, e7, e8]), (by simp only [W0, Nat.reduceEqDiff, Nat.reduceLT, ↓reduceIte, hl, e2, e3, e6, e7, e8]), (by simp only [W0, Nat.reduceEqDiff, Nat.reduceLT, ↓reduceIte, hl, e2, e3, e6, e7, e8])⟩) ?_
    rintro envg47 _ ⟨rfl, hl, e2, e3, e6, e7, e8, e9⟩
    try simp only [↓WD, W0, evalOp, Nat.reduceEqDiff, Nat.reduceLT, ↓reduceIte, reduceCtorEq, hl, e2, e3, e6, e7, e8, e9]
    refine CondK_dec (fun c49 => ?_) (fun c49 => ?_)
    · rw [if_pos c49] at wr71
      try simp only [↓WD, W0, evalOp, Nat.reduceEqDiff, Nat.reduceLT, ↓reduceIte, reduceCtorEq, hl, e2, e3, e6, e7, e8, e9]
      rw [AW_region]
      obtain ⟨x50, qx50, wr71⟩ := obind wr71
      obtain ⟨i51, off52, oi53, hp54⟩ := RO.addr (P := Try.prog) sl_52 (S46.ro hun_) qx50
      have ol55 := RO.ld (P := Try.prog) (S46.ro hun_) hp54 qx50 (t := 3) (o := 0) (v := .int .i64 x50) (by omega) (by simp only [apart, ag_3, sz_3]; rfl)
      simp only [Nat.add_zero] at ol55
      refine AE_joinR (fun e h' => h45 = h' ∧ e.length = 19 ∧ e.getD 2 .undef = .ptr i1 0 ∧ e.getD 3 .undef = .ptr i8 0 ∧ e.getD 5 .undef = .int .i64 x50 ∧ e.getD 6 .undef = un_ ∧ e.getD 7 .undef = .int .i64 (n_.length : Int) ∧ e.getD 8 .undef = .int .i64 s.2) (by
        simp only [↓WE, WA, WL, aop, ofValue, ofCell, isConst, abin, acall1, abuiltin, aun, AV.cells, AV.one, Nat.reduceAdd, Int.reduceLT, Int.reduceLE, ↓WD, W0, evalOp, Nat.reduceEqDiff, Nat.reduceLT, ↓reduceIte, reduceCtorEq, hl, e2, e3, e6, e7, e8, e9, oi53, ol55]
        exact ⟨rfl, (by simp only [List.length_set, hl]), (by simp only [W0, Nat.reduceEqDiff, Nat.reduceLT, ↓reduceIte, hl, e2, e3, e6, e7, e8, e9]), (by simp only [W0, Nat.reduceEqDiff, Nat.reduceLT, ↓reduceIte, hl, e2, e3, e6, e7, e8, e9]), (by simp only [W0, Nat.reduceEqDiff, Nat.reduceLT, ↓reduceIte, hl, e2, e3, e6, e7, e8, e9]), (by simp only [W0, Nat.reduceEqDiff, Nat.reduceLT, ↓reduceIte, hl, e2, e3, e6, e7, e8, e9]), (by simp only [W0, Nat.reduceEqDiff, Nat.reduceLT, ↓reduceIte, hl, e2, e3, e6, e7, e8, e9]), (by simp only [W0, Nat.reduceEqDiff, Nat.reduceLT, ↓reduceIte, hl, e2, e3, e6, e7, e8, e9])⟩) ?_
      rintro envg56 _ ⟨rfl, hl, e2, e3, e5, e6, e7, e8⟩
      try simp only [↓WD, W0, evalOp, Nat.reduceEqDiff, Nat.reduceLT, ↓reduceIte, reduceCtorEq, hl, e2, e3, e5, e6, e7, e8]
      rw [AW_region]
      have oc57 := fun g : AH => aconv_int (P := Try.prog) (h := g) (n := x50) (k' := .i64) Try.underlying3 Try.underlying25
      obtain ⟨y58, qy58, wr71⟩ := obind wr71
      have og59 := fun (D : Drawn) (n : Nat) (g : AH) => call_hook (P := Try.prog) (D := D) k15 n (args := [.int .u64 (IntKind.u64.wrap x50)]) (v := .str y58) ((kf_15_eq (IntKind.u64.wrap x50)).trans (by rw [qy58]; rfl)) g
      obtain ⟨b60, qb60, wr71⟩ := obind wr71
      obtain ⟨p61, u62, h63, ow64, S65⟩ := S46.bwrite (T := tabOf K) k77 n69 n50 1 rfl qb60 m (by omega)
      have S66 : Sep h [] h63 [.blk i1 [.int .i64 0, .str []] 47, .bld i8 p61 u62 88 5 b60] := S65
      refine AE_joinR (fun e h' => h63 = h' ∧ e.length = 19 ∧ e.getD 2 .undef = .ptr i1 0 ∧ e.getD 3 .undef = .ptr i8 0 ∧ e.getD 6 .undef = un_ ∧ e.getD 7 .undef = .int .i64 (n_.length : Int) ∧ e.getD 8 .undef = .int .i64 s.2) (by
        simp only [↓WE, WA, WL, aop, ofValue, ofCell, isConst, abin, acall1, abuiltin, aun, AV.cells, AV.one, Nat.reduceAdd, Int.reduceLT, Int.reduceLE, ↓WD, W0, evalOp, Nat.reduceEqDiff, Nat.reduceLT, ↓reduceIte, reduceCtorEq, hl, e2, e3, e5, e6, e7, e8, oc57, og59, ow64]
        exact ⟨rfl, (by simp only [List.length_set, hl]), (by simp only [W0, Nat.reduceEqDiff, Nat.reduceLT, ↓reduceIte, hl, e2, e3, e5, e6, e7, e8]), (by simp only [W0, Nat.reduceEqDiff, Nat.reduceLT, ↓reduceIte, hl, e2, e3, e5, e6, e7, e8]), (by simp only [W0, Nat.reduceEqDiff, Nat.reduceLT, ↓reduceIte, hl, e2, e3, e5, e6, e7, e8]), (by simp only [W0, Nat.reduceEqDiff, Nat.reduceLT, ↓reduceIte, hl, e2, e3, e5, e6, e7, e8]), (by simp only [W0, Nat.reduceEqDiff, Nat.reduceLT, ↓reduceIte, hl, e2, e3, e5, e6, e7, e8])⟩) ?_
      rintro envg67 _ ⟨rfl, hl, e2, e3, e6, e7, e8⟩
      try simp only [↓WD, W0, evalOp, Nat.reduceEqDiff, Nat.reduceLT, ↓reduceIte, reduceCtorEq, hl, e2, e3, e6, e7, e8]
      rw [AW_region]
      refine AE_joinR (fun e h' => h63 = h' ∧ e.length = 19 ∧ e.getD 2 .undef = .ptr i1 0 ∧ e.getD 3 .undef = .ptr i8 0 ∧ e.getD 6 .undef = un_ ∧ e.getD 7 .undef = .int .i64 (n_.length : Int) ∧ e.getD 8 .undef = .int .i64 (IntKind.i64.wrap (s.2 + 1))) (by
        simp only [↓WE, WA, WL, aop, ofValue, ofCell, isConst, abin, acall1, abuiltin, aun, AV.cells, AV.one, Nat.reduceAdd, Int.reduceLT, Int.reduceLE, ↓WD, W0, evalOp, Nat.reduceEqDiff, Nat.reduceLT, ↓reduceIte, reduceCtorEq, hl, e2, e3, e6, e7, e8]
        exact ⟨rfl, (by simp only [List.length_set, hl]), (by simp only [W0, Nat.reduceEqDiff, Nat.reduceLT, ↓reduceIte, hl, e2, e3, e6, e7, e8]), (by simp only [W0, Nat.reduceEqDiff, Nat.reduceLT, ↓reduceIte, hl, e2, e3, e6, e7, e8]), (by simp only [W0, Nat.reduceEqDiff, Nat.reduceLT, ↓reduceIte, hl, e2, e3, e6, e7, e8]), (by simp only [W0, Nat.reduceEqDiff, Nat.reduceLT, ↓reduceIte, hl, e2, e3, e6, e7, e8]), (by simp only [W0, Nat.reduceEqDiff, Nat.reduceLT, ↓reduceIte, hl, e2, e3, e6, e7, e8])⟩) ?_
      rintro envg68 _ ⟨rfl, hl, e2, e3, e6, e7, e8⟩
      try simp only [↓WD, W0, evalOp, Nat.reduceEqDiff, Nat.reduceLT, ↓reduceIte, reduceCtorEq, hl, e2, e3, e6, e7, e8]
      obtain rfl := Option.some.inj wr71
      rw [KP_nil, QL_normal]
      exact ⟨_, rfl, p61, u62, (by simp only [List.length_set, hl]), (by simp only [W0, Nat.reduceEqDiff, Nat.reduceLT, ↓reduceIte, hl, e2, e3, e6, e7, e8]), (by simp only [W0, Nat.reduceEqDiff, Nat.reduceLT, ↓reduceIte, hl, e2, e3, e6, e7, e8]), (by simp only [W0, Nat.reduceEqDiff, Nat.reduceLT, ↓reduceIte, hl, e2, e3, e6, e7, e8]), (by simp only [W0, Nat.reduceEqDiff, Nat.reduceLT, ↓reduceIte, hl, e2, e3, e6, e7, e8]), (by simp only [W0, Nat.reduceEqDiff, Nat.reduceLT, ↓reduceIte, hl, e2, e3, e6, e7, e8]), S66⟩
    · rw [if_neg c49] at wr71
      try simp only [↓WD, W0, evalOp, Nat.reduceEqDiff, Nat.reduceLT, ↓reduceIte, reduceCtorEq, hl, e2, e3, e6, e7, e8, e9]
      obtain rfl := Option.some.inj wr71
      rw [KP_nil, QL_exit]
      exact ⟨_, rfl, p43, u44, rfl, (by simp only [List.length_set, hl]), (by simp only [W0, Nat.reduceEqDiff, Nat.reduceLT, ↓reduceIte, hl, e2, e3, e6, e7, e8, e9]), (by simp only [W0, Nat.reduceEqDiff, Nat.reduceLT, ↓reduceIte, hl, e2, e3, e6, e7, e8, e9]), S46⟩
  · exact ⟨.val (.pointer none), .val (.slice none 0 0), (by simp only [List.length_set, hl]), (by simp only [W0, Nat.reduceEqDiff, Nat.reduceLT, ↓reduceIte, hl, e2, e3, e6, e7, e8]), (by simp only [W0, Nat.reduceEqDiff, Nat.reduceLT, ↓reduceIte, hl, e2, e3, e6, e7, e8]), (by simp only [W0, Nat.reduceEqDiff, Nat.reduceLT, ↓reduceIte, hl, e2, e3, e6, e7, e8]), (by simp only [W0, Nat.reduceEqDiff, Nat.reduceLT, ↓reduceIte, hl, e2, e3, e6, e7, e8]), (by simp only [W0, Nat.reduceEqDiff, Nat.reduceLT, ↓reduceIte, hl, e2, e3, e6, e7, e8]), S13⟩
  · rintro x envr71 h74 ⟨p72, u73, rfl, hl, e2, e3, S75⟩
    try simp only [↓WD, W0, evalOp, Nat.reduceEqDiff, Nat.reduceLT, ↓reduceIte, reduceCtorEq, hl, e2, e3]
    rw [AW_region]
    obtain ⟨_, q79, hF⟩ := obind hF
    obtain ⟨h76, ow77, S78⟩ := S75.bstring (T := tabOf K) n52 1 rfl (chkCap_le q79) rfl m (by omega)
    have S80 : Sep h [] h76 [.blk i1 [.int .i64 0, .str []] 47] := S78
    obtain ⟨h81, os82, S83⟩ := S80.store (P := Try.prog) 0 rfl (t := 47) (off := 0) (v := .agg [.int .i64 1, .str r71]) (c' := [.int .i64 1, .str r71]) rfl sz_47 rfl (by simp) rfl
    have S84 : Sep h [] h81 [.blk i1 [.int .i64 1, .str r71] 47] := S83
    refine AE_joinR (fun e h' => h81 = h' ∧ e.length = 19 ∧ e.getD 2 .undef = .ptr i1 0) (by
      simp only [↓WE, WA, WL, aop, ofValue, ofCell, isConst, abin, acall1, abuiltin, aun, AV.cells, AV.one, Nat.reduceAdd, Int.reduceLT, Int.reduceLE, ↓WD, W0, evalOp, Nat.reduceEqDiff, Nat.reduceLT, ↓reduceIte, reduceCtorEq, hl, e2, e3, ow77, bd_47_0_1, os82]
      exact ⟨rfl, (by simp only [List.length_set, hl]), (by simp only [W0, Nat.reduceEqDiff, Nat.reduceLT, ↓reduceIte, hl, e2, e3])⟩) ?_
    rintro envg85 _ ⟨rfl, hl, e2⟩
    try simp only [↓WD, W0, evalOp, Nat.reduceEqDiff, Nat.reduceLT, ↓reduceIte, reduceCtorEq, hl, e2]
    have ol86 := S84.load (P := Try.prog) 0 rfl (t := 47) (off := 0) (v := .agg [.int .i64 1, .str r71]) (by simp only [apart, ag_47, sz_47]; rfl)
    refine KP_ret (vs := [.agg [.int .i64 1, .str r71]]) (by simp only [aresults, aresult, gs, List.length_set, Nat.reduceEqDiff, Nat.reduceLT, ↓reduceIte, hl, e2, ol86]) ?_
    obtain rfl := Option.some.inj hF
    exact ⟨rfl, S84.pick [] (by decide) rfl⟩
set_option maxRecDepth 100000 in
set_option maxHeartbeats 4000000 in
theorem W_field_P16 {K : PureK} (k45 : K 45 = some kf_45) (n13 : K 13 = none) (m : Nat) (hm : NF + 1 ≤ m) (h : AH) (n_ : Int) {r : (List UInt8)} (hF : F_field_P16 n_ = some r) :
    AR (acall Try.prog (hooksOf K) (drawnOf Try.prog (tabOf K)) m 13 [.int .i64 n_] h) (fun v h' => v = .str r) := by
  obtain ⟨m, rfl⟩ : ∃ k, m = k + 1 := ⟨m - 1, by omega⟩
  refine AR_call (hooksOf_none n13) Try.func13 rfl _ _ fun env hl he => ?_
  have e0 := he 0
  simp only [List.getD_cons_zero, List.getD_cons_succ] at e0
  simp only [Try.f13] at hl ⊢
  simp only [List.length_cons, List.length_nil, Nat.reduceAdd, Nat.reduceSub] at hl
  clear he
  have S0 : Sep h [] h [] := Sep.nil h
  rw [F_field_P16] at hF
  try simp only [↓WD, W0, evalOp, Nat.reduceEqDiff, Nat.reduceLT, ↓reduceIte, reduceCtorEq, hl, e0]
  rw [AW_region]
  refine AE_joinR (fun e h' => h = h' ∧ e.length = 6 ∧ e.getD 0 .undef = .int .i64 n_) (by
    simp only [↓WE, WA, WL, aop, ofValue, ofCell, isConst, abin, acall1, abuiltin, aun, AV.cells, AV.one, Nat.reduceAdd, Int.reduceLT, Int.reduceLE, ↓WD, W0, evalOp, Nat.reduceEqDiff, Nat.reduceLT, ↓reduceIte, reduceCtorEq, hl, e0]
    exact ⟨rfl, (by simp only [List.length_set, hl]), (by simp only [W0, Nat.reduceEqDiff, Nat.reduceLT, ↓reduceIte, hl, e0])⟩) ?_
  rintro envg1 _ ⟨rfl, hl, e0⟩
  try simp only [↓WD, W0, evalOp, Nat.reduceEqDiff, Nat.reduceLT, ↓reduceIte, reduceCtorEq, hl, e0]
  rw [AW_region]
  have oc2 := fun g : AH => aconv_int (P := Try.prog) (h := g) (n := n_) (k' := .i64) Try.underlying3 Try.underlying25
  obtain ⟨y3, qy3, hF⟩ := obind hF
  have og4 := fun (D : Drawn) (n : Nat) (g : AH) => call_hook (P := Try.prog) (D := D) k45 n (args := [.int .u64 (IntKind.u64.wrap n_), .int .i64 2]) (v := .str y3) ((kf_45_eq (IntKind.u64.wrap n_) 2).trans (by rw [qy3]; rfl)) g
  refine AE_joinR (fun e h' => h = h' ∧ e.length = 6 ∧ e.getD 2 .undef = .str y3) (by
    simp only [↓WE, WA, WL, aop, ofValue, ofCell, isConst, abin, acall1, abuiltin, aun, AV.cells, AV.one, Nat.reduceAdd, Int.reduceLT, Int.reduceLE, ↓WD, W0, evalOp, Nat.reduceEqDiff, Nat.reduceLT, ↓reduceIte, reduceCtorEq, hl, e0, oc2, og4]
    exact ⟨rfl, (by simp only [List.length_set, hl]), (by simp only [W0, Nat.reduceEqDiff, Nat.reduceLT, ↓reduceIte, hl, e0])⟩) ?_
  rintro envg5 _ ⟨rfl, hl, e2⟩
  try simp only [↓WD, W0, evalOp, Nat.reduceEqDiff, Nat.reduceLT, ↓reduceIte, reduceCtorEq, hl, e2]
  refine KP_ret (vs := [.str y3]) (by simp only [aresults, aresult, gs, List.length_set, Nat.reduceEqDiff, Nat.reduceLT, ↓reduceIte, hl, e2]) ?_
  obtain rfl := Option.some.inj hF
  exact rfl
set_option maxRecDepth 100000 in
set_option maxHeartbeats 4000000 in
theorem W_extra_Put {K : PureK} (k13 : K 13 = some kf_13) (k77 : K 77 = some hb77) (n50 : K 50 = none) (n51 : K 51 = none) (n52 : K 52 = none) (n69 : K 69 = none) (n26 : K 26 = none) (m : Nat) (hm : NF + 4 ≤ m) (h : AH) (ul : AV) (l : List Gapi_Extra) (hul : RO 2 ul h (l.map Gapi_Extra.cells)) {r : (List UInt8) × Int} (hF : F_extra_Put l = some r) :
    AR (acall Try.prog (hooksOf K) (drawnOf Try.prog (tabOf K)) m 26 [ul] h) (fun v h' => v = .tup [.str r.1, .int .i64 r.2] ∧ Sep h [] h' []) := by
  obtain ⟨m, rfl⟩ : ∃ k, m = k + 1 := ⟨m - 1, by omega⟩
  refine AR_call (hooksOf_none n26) Try.func26 rfl _ _ fun env hl he => ?_
  have e0 := he 0
  simp only [List.getD_cons_zero, List.getD_cons_succ] at e0
  simp only [Try.f26] at hl ⊢
  simp only [List.length_cons, List.length_nil, Nat.reduceAdd, Nat.reduceSub] at hl
  clear he
  have S0 : Sep h [] h [] := Sep.nil h
  rw [F_extra_Put] at hF
  try simp only [↓WD, W0, evalOp, Nat.reduceEqDiff, Nat.reduceLT, ↓reduceIte, reduceCtorEq, hl, e0]
  rw [AW_region]
  refine AE_joinR (fun e h' => h = h' ∧ e.length = 43 ∧ e.getD 0 .undef = ul) (by
    simp only [↓WE, WA, WL, aop, ofValue, ofCell, isConst, abin, acall1, abuiltin, aun, AV.cells, AV.one, Nat.reduceAdd, Int.reduceLT, Int.reduceLE, ↓WD, W0, evalOp, Nat.reduceEqDiff, Nat.reduceLT, ↓reduceIte, reduceCtorEq, hl, e0]
    exact ⟨rfl, (by simp only [List.length_set, hl]), (by simp only [W0, Nat.reduceEqDiff, Nat.reduceLT, ↓reduceIte, hl, e0])⟩) ?_
  rintro envg1 _ ⟨rfl, hl, e0⟩
  try simp only [↓WD, W0, evalOp, Nat.reduceEqDiff, Nat.reduceLT, ↓reduceIte, reduceCtorEq, hl, e0]
  rw [AW_region]
  obtain ⟨i2, h3, oa4, S5⟩ := S0.allocB
  have S7 : Sep h [] h3 [.bld i2 (.val (.pointer none)) (.val (.slice none 0 0)) 88 5 ([] : List UInt8)] := S5
  refine AE_joinR (fun e h' => h3 = h' ∧ e.length = 43 ∧ e.getD 0 .undef = ul ∧ e.getD 4 .undef = .ptr i2 0) (by
    simp only [↓WE, WA, WL, aop, ofValue, ofCell, isConst, abin, acall1, abuiltin, aun, AV.cells, AV.one, Nat.reduceAdd, Int.reduceLT, Int.reduceLE, ↓WD, W0, evalOp, Nat.reduceEqDiff, Nat.reduceLT, ↓reduceIte, reduceCtorEq, hl, e0, zero_88, oa4]
    exact ⟨rfl, (by simp only [List.length_set, hl]), (by simp only [W0, Nat.reduceEqDiff, Nat.reduceLT, ↓reduceIte, hl, e0]), (by simp only [W0, Nat.reduceEqDiff, Nat.reduceLT, ↓reduceIte, hl, e0])⟩) ?_
  rintro envg8 _ ⟨rfl, hl, e0, e4⟩
  try simp only [↓WD, W0, evalOp, Nat.reduceEqDiff, Nat.reduceLT, ↓reduceIte, reduceCtorEq, hl, e0, e4]
  rw [AW_region]
  have ol9 := RO.len (P := Try.prog) sl_35 (S7.ro hul)
  rw [List.length_map] at ol9
  refine AE_joinR (fun e h' => h3 = h' ∧ e.length = 43 ∧ e.getD 4 .undef = .ptr i2 0 ∧ e.getD 7 .undef = ul ∧ e.getD 8 .undef = .int .i64 (l.length : Int) ∧ e.getD 9 .undef = .int .i64 0) (by
    simp only [↓WE, WA, WL, aop, ofValue, ofCell, isConst, abin, acall1, abuiltin, aun, AV.cells, AV.one, Nat.reduceAdd, Int.reduceLT, Int.reduceLE, ↓WD, W0, evalOp, Nat.reduceEqDiff, Nat.reduceLT, ↓reduceIte, reduceCtorEq, hl, e0, e4, ol9]
    exact ⟨rfl, (by simp only [List.length_set, hl]), (by simp only [W0, Nat.reduceEqDiff, Nat.reduceLT, ↓reduceIte, hl, e0, e4]), (by simp only [W0, Nat.reduceEqDiff, Nat.reduceLT, ↓reduceIte, hl, e0, e4]), (by simp only [W0, Nat.reduceEqDiff, Nat.reduceLT, ↓reduceIte, hl, e0, e4]), (by simp only [W0, Nat.reduceEqDiff, Nat.reduceLT, ↓reduceIte, hl, e0, e4])⟩) ?_
  rintro envg10 _ ⟨rfl, hl, e4, e7, e8, e9⟩
  try simp only [↓WD, W0, evalOp, Nat.reduceEqDiff, Nat.reduceLT, ↓reduceIte, reduceCtorEq, hl, e4, e7, e8, e9]
  obtain ⟨r133, qr133, hF⟩ := obind hF
  refine AW_lift (L_extra_Put_1 l) (fun s e h' => ∃ (p71 : AV), ∃ (u72 : AV), e.length = 43 ∧ e.getD 4 .undef = .ptr i2 0 ∧ e.getD 7 .undef = ul ∧ e.getD 8 .undef = .int .i64 (l.length : Int) ∧ e.getD 9 .undef = .int .i64 s.2 ∧ Sep h [] h' [.bld i2 p71 u72 88 5 s.1]) (fun r133 x e h' => (∃ (t134 : (List UInt8)), ∃ (p135 : AV), ∃ (u136 : AV), r133 = (.inl t134) ∧ x = .exit 0 ∧ e.length = 43 ∧ e.getD 4 .undef = .ptr i2 0 ∧ Sep h [] h' [.bld i2 p135 u136 88 5 t134]) ∨ (∃ (t139 : Unit), r133 = (.inr t139) ∧ x = .ret ∧ e.length = 43 ∧ e.getD 2 .undef = .str [] ∧ e.getD 3 .undef = .int .i64 1 ∧ Sep h [] h' [])) qr133 (by omega) ?_ ?_ ?_
  · rintro s envr133 h73 or133 ⟨p71, u72, hl, e4, e7, e8, e9, S74⟩ wr133
    rw [L_extra_Put_1] at wr133
    try simp only [↓WD, W0, evalOp, Nat.reduceEqDiff, Nat.reduceLT, ↓reduceIte, reduceCtorEq, hl, e4, e7, e8, e9]
    rw [AW_region]
    refine AE_joinR (fun e h' => h73 = h' ∧ e.length = 43 ∧ e.getD 4 .undef = .ptr i2 0 ∧ e.getD 7 .undef = ul ∧ e.getD 8 .undef = .int .i64 (l.length : Int) ∧ e.getD 9 .undef = .int .i64 s.2 ∧ e.getD 10 .undef = .bool (decide (s.2 < (l.length : Int)))) (by
      simp only [↓WE, WA, WL, aop, ofValue, ofCell, isConst, abin, acall1, abuiltin, aun, AV.cells, AV.one, Nat.reduceAdd, Int.reduceLT, Int.reduceLE, ↓WD, W0, evalOp, Nat.reduceEqDiff, Nat.reduceLT, ↓reduceIte, reduceCtorEq, hl, e4, e7, e8, e9]
      exact ⟨rfl, (by simp only [List.length_set, hl]), (by simp only [W0, Nat.reduceEqDiff, Nat.reduceLT, ↓reduceIte, hl, e4, e7, e8, e9]), (by simp only [W0, Nat.reduceEqDiff, Nat.reduceLT, ↓reduceIte, hl, e4, e7, e8, e9]), (by simp only [W0, Nat.reduceEqDiff, Nat.reduceLT, ↓reduceIte, hl, e4, e7, e8, e9]), (by simp only [W0, Nat.reduceEqDiff, Nat.reduceLT, ↓reduceIte, hl, e4, e7, e8, e9]), (by simp only [W0, Nat.reduceEqDiff, Nat.reduceLT, ↓reduceIte, hl, e4, e7, e8, e9])⟩) ?_
    rintro envg75 _ ⟨rfl, hl, e4, e7, e8, e9, e10⟩
    try simp only [↓WD, W0, evalOp, Nat.reduceEqDiff, Nat.reduceLT, ↓reduceIte, reduceCtorEq, hl, e4, e7, e8, e9, e10]
    refine CondK_dec (fun c77 => ?_) (fun c77 => ?_)
    · rw [if_pos c77] at wr133
      try simp only [↓WD, W0, evalOp, Nat.reduceEqDiff, Nat.reduceLT, ↓reduceIte, reduceCtorEq, hl, e4, e7, e8, e9, e10]
      rw [AW_region]
      obtain ⟨x78, qx78, wr133⟩ := obind wr133
      obtain ⟨i79, off80, oi81, hp82⟩ := RO.addr (P := Try.prog) sl_35 (S74.ro hul) qx78
      have ol83 := RO.ld (P := Try.prog) (S74.ro hul) hp82 qx78 (t := 47) (o := 0) (v := .agg [.int .i64 x78.xID, .str x78.xData]) (by omega) (by simp only [apart, ag_47, sz_47]; rfl)
      simp only [Nat.add_zero] at ol83
      obtain ⟨i84, h85, oa86, S87⟩ := S74.alloc 47 [.int .i64 0, .str []]
      have S89 : Sep h [] h85 [.bld i2 p71 u72 88 5 s.1, .blk i84 [.int .i64 0, .str []] 47] := S87
      obtain ⟨h90, os91, S92⟩ := S89.store (P := Try.prog) 1 rfl (t := 47) (off := 0) (v := .agg [.int .i64 x78.xID, .str x78.xData]) (c' := [.int .i64 x78.xID, .str x78.xData]) rfl sz_47 rfl (by simp) rfl
      have S93 : Sep h [] h90 [.bld i2 p71 u72 88 5 s.1, .blk i84 [.int .i64 x78.xID, .str x78.xData] 47] := S92
      refine AE_joinR (fun e h' => h90 = h' ∧ e.length = 43 ∧ e.getD 4 .undef = .ptr i2 0 ∧ e.getD 6 .undef = .ptr i84 0 ∧ e.getD 7 .undef = ul ∧ e.getD 8 .undef = .int .i64 (l.length : Int) ∧ e.getD 9 .undef = .int .i64 s.2) (by
        simp only [↓WE, WA, WL, aop, ofValue, ofCell, isConst, abin, acall1, abuiltin, aun, AV.cells, AV.one, Nat.reduceAdd, Int.reduceLT, Int.reduceLE, ↓WD, W0, evalOp, Nat.reduceEqDiff, Nat.reduceLT, ↓reduceIte, reduceCtorEq, hl, e4, e7, e8, e9, e10, oi81, ol83, zero_47, oa86, os91]
        exact ⟨rfl, (by simp only [List.length_set, hl]), (by simp only [W0, Nat.reduceEqDiff, Nat.reduceLT, ↓reduceIte, hl, e4, e7, e8, e9, e10]), (by simp only [W0, Nat.reduceEqDiff, Nat.reduceLT, ↓reduceIte, hl, e4, e7, e8, e9, e10]), (by simp only [W0, Nat.reduceEqDiff, Nat.reduceLT, ↓reduceIte, hl, e4, e7, e8, e9, e10]), (by simp only [W0, Nat.reduceEqDiff, Nat.reduceLT, ↓reduceIte, hl, e4, e7, e8, e9, e10]), (by simp only [W0, Nat.reduceEqDiff, Nat.reduceLT, ↓reduceIte, hl, e4, e7, e8, e9, e10])⟩) ?_
      rintro envg94 _ ⟨rfl, hl, e4, e6, e7, e8, e9⟩
      try simp only [↓WD, W0, evalOp, Nat.reduceEqDiff, Nat.reduceLT, ↓reduceIte, reduceCtorEq, hl, e4, e6, e7, e8, e9]
      rw [AW_region]
      obtain ⟨j105, qj105, wr133⟩ := obind wr133
      refine AE_joinR (fun e h' => e.length = 43 ∧ e.getD 4 .undef = .ptr i2 0 ∧ e.getD 6 .undef = .ptr i84 0 ∧ e.getD 7 .undef = ul ∧ e.getD 8 .undef = .int .i64 (l.length : Int) ∧ e.getD 9 .undef = .int .i64 s.2 ∧ e.getD 26 .undef = .bool j105 ∧ Sep h [] h' [.bld i2 p71 u72 88 5 s.1, .blk i84 [.int .i64 x78.xID, .str x78.xData] 47]) ?_ ?_
      · have ol95 := S93.load (P := Try.prog) 1 rfl (t := 3) (off := 0) (v := .int .i64 x78.xID) (by simp only [apart, ag_3, sz_3]; rfl)
        simp only [↓WE, WA, WL, aop, ofValue, ofCell, isConst, abin, acall1, abuiltin, aun, AV.cells, AV.one, Nat.reduceAdd, Int.reduceLT, Int.reduceLE, ↓WD, W0, evalOp, Nat.reduceEqDiff, Nat.reduceLT, ↓reduceIte, reduceCtorEq, hl, e4, e6, e7, e8, e9, fa_47_0, ol95]
        refine GuardW_dec (fun c96 => ?_) (fun c96 => ?_)
        · rw [if_pos c96] at qj105
          have d97 : (decide (x78.xID < 0)) = true := decide_eq_true c96
          simp only [↓WE, WA, WL, aop, ofValue, ofCell, isConst, abin, acall1, abuiltin, aun, AV.cells, AV.one, Nat.reduceAdd, Int.reduceLT, Int.reduceLE, ↓WD, W0, evalOp, Nat.reduceEqDiff, Nat.reduceLT, ↓reduceIte, reduceCtorEq, hl, e4, e6, e7, e8, e9, fa_47_0, ol95, d97]
          obtain rfl := Option.some.inj qj105
          exact ⟨(by simp only [List.length_set, hl]), (by simp only [W0, Nat.reduceEqDiff, Nat.reduceLT, ↓reduceIte, hl, e4, e6, e7, e8, e9]), (by simp only [W0, Nat.reduceEqDiff, Nat.reduceLT, ↓reduceIte, hl, e4, e6, e7, e8, e9]), (by simp only [W0, Nat.reduceEqDiff, Nat.reduceLT, ↓reduceIte, hl, e4, e6, e7, e8, e9]), (by simp only [W0, Nat.reduceEqDiff, Nat.reduceLT, ↓reduceIte, hl, e4, e6, e7, e8, e9]), (by simp only [W0, Nat.reduceEqDiff, Nat.reduceLT, ↓reduceIte, hl, e4, e6, e7, e8, e9]), (by simp only [W0, Nat.reduceEqDiff, Nat.reduceLT, ↓reduceIte, hl, e4, e6, e7, e8, e9]), S93⟩
        · rw [if_neg c96] at qj105
          have d98 : (decide (x78.xID < 0)) = false := decide_eq_false c96
          have ol99 := S93.load (P := Try.prog) 1 rfl (t := 3) (off := 0) (v := .int .i64 x78.xID) (by simp only [apart, ag_3, sz_3]; rfl)
          simp only [↓WE, WA, WL, aop, ofValue, ofCell, isConst, abin, acall1, abuiltin, aun, AV.cells, AV.one, Nat.reduceAdd, Int.reduceLT, Int.reduceLE, ↓WD, W0, evalOp, Nat.reduceEqDiff, Nat.reduceLT, ↓reduceIte, reduceCtorEq, hl, e4, e6, e7, e8, e9, fa_47_0, ol95, ol99, d98]
          refine GuardW_dec (fun c100 => ?_) (fun c100 => ?_)
          · rw [if_pos c100] at qj105
            have d101 : (decide (x78.xID > 65535)) = true := decide_eq_true c100
            simp only [↓WE, WA, WL, aop, ofValue, ofCell, isConst, abin, acall1, abuiltin, aun, AV.cells, AV.one, Nat.reduceAdd, Int.reduceLT, Int.reduceLE, ↓WD, W0, evalOp, Nat.reduceEqDiff, Nat.reduceLT, ↓reduceIte, reduceCtorEq, hl, e4, e6, e7, e8, e9, fa_47_0, ol95, ol99, d98, d101]
            obtain rfl := Option.some.inj qj105
            exact ⟨(by simp only [List.length_set, hl]), (by simp only [W0, Nat.reduceEqDiff, Nat.reduceLT, ↓reduceIte, hl, e4, e6, e7, e8, e9]), (by simp only [W0, Nat.reduceEqDiff, Nat.reduceLT, ↓reduceIte, hl, e4, e6, e7, e8, e9]), (by simp only [W0, Nat.reduceEqDiff, Nat.reduceLT, ↓reduceIte, hl, e4, e6, e7, e8, e9]), (by simp only [W0, Nat.reduceEqDiff, Nat.reduceLT, ↓reduceIte, hl, e4, e6, e7, e8, e9]), (by simp only [W0, Nat.reduceEqDiff, Nat.reduceLT, ↓reduceIte, hl, e4, e6, e7, e8, e9]), (by simp only [W0, Nat.reduceEqDiff, Nat.reduceLT, ↓reduceIte, hl, e4, e6, e7, e8, e9]), S93⟩
          · rw [if_neg c100] at qj105
            have d102 : (decide (x78.xID > 65535)) = false := decide_eq_false c100
            have ol103 := S93.load (P := Try.prog) 1 rfl (t := 9) (off := 1) (v := .str x78.xData) (by simp only [apart, ag_9, sz_9]; rfl)
            have ol104 := fun g : AH => alen_str (P := Try.prog) (h := g) (l := x78.xData) Try.underlying9
            simp only [↓WE, WA, WL, aop, ofValue, ofCell, isConst, abin, acall1, abuiltin, aun, AV.cells, AV.one, Nat.reduceAdd, Int.reduceLT, Int.reduceLE, ↓WD, W0, evalOp, Nat.reduceEqDiff, Nat.reduceLT, ↓reduceIte, reduceCtorEq, hl, e4, e6, e7, e8, e9, fa_47_0, ol95, ol99, fa_47_1, ol103, ol104, d98, d102]
            obtain rfl := Option.some.inj qj105
            exact ⟨(by simp only [List.length_set, hl]), (by simp only [W0, Nat.reduceEqDiff, Nat.reduceLT, ↓reduceIte, hl, e4, e6, e7, e8, e9]), (by simp only [W0, Nat.reduceEqDiff, Nat.reduceLT, ↓reduceIte, hl, e4, e6, e7, e8, e9]), (by simp only [W0, Nat.reduceEqDiff, Nat.reduceLT, ↓reduceIte, hl, e4, e6, e7, e8, e9]), (by simp only [W0, Nat.reduceEqDiff, Nat.reduceLT, ↓reduceIte, hl, e4, e6, e7, e8, e9]), (by simp only [W0, Nat.reduceEqDiff, Nat.reduceLT, ↓reduceIte, hl, e4, e6, e7, e8, e9]), (by simp only [W0, Nat.reduceEqDiff, Nat.reduceLT, ↓reduceIte, hl, e4, e6, e7, e8, e9]), S93⟩
      · rintro envj105 h107 ⟨hl, e4, e6, e7, e8, e9, e26, S106⟩
        try simp only [↓WD, W0, evalOp, Nat.reduceEqDiff, Nat.reduceLT, ↓reduceIte, reduceCtorEq, hl, e4, e6, e7, e8, e9, e26]
        refine CondK_boo (fun c110 => ?_) (fun c110 => ?_)
        · rw [if_pos c110] at wr133
          try simp only [↓WD, W0, evalOp, Nat.reduceEqDiff, Nat.reduceLT, ↓reduceIte, reduceCtorEq, hl, e4, e6, e7, e8, e9, e26]
          rw [AW_region]
          refine AE_joinR (fun e h' => h107 = h' ∧ e.length = 43 ∧ e.getD 2 .undef = .str [] ∧ e.getD 3 .undef = .int .i64 1) (by
            simp only [↓WE, WA, WL, aop, ofValue, ofCell, isConst, abin, acall1, abuiltin, aun, AV.cells, AV.one, Nat.reduceAdd, Int.reduceLT, Int.reduceLE, ↓WD, W0, evalOp, Nat.reduceEqDiff, Nat.reduceLT, ↓reduceIte, reduceCtorEq, hl, e4, e6, e7, e8, e9, e26]
            exact ⟨rfl, (by simp only [List.length_set, hl]), (by simp only [W0, Nat.reduceEqDiff, Nat.reduceLT, ↓reduceIte, hl, e4, e6, e7, e8, e9, e26]), (by simp only [W0, Nat.reduceEqDiff, Nat.reduceLT, ↓reduceIte, hl, e4, e6, e7, e8, e9, e26])⟩) ?_
          rintro envg111 _ ⟨rfl, hl, e2, e3⟩
          try simp only [↓WD, W0, evalOp, Nat.reduceEqDiff, Nat.reduceLT, ↓reduceIte, reduceCtorEq, hl, e2, e3]
          obtain rfl := Option.some.inj wr133
          rw [KP_nil, QL_ret]
          exact ⟨_, rfl, .inr (⟨_, rfl, rfl, (by simp only [List.length_set, hl]), (by simp only [W0, Nat.reduceEqDiff, Nat.reduceLT, ↓reduceIte, hl, e2, e3]), (by simp only [W0, Nat.reduceEqDiff, Nat.reduceLT, ↓reduceIte, hl, e2, e3]), S106.pick [] (by decide) rfl⟩)⟩
        · rw [if_neg (nf c110)] at wr133
          try simp only [↓WD, W0, evalOp, Nat.reduceEqDiff, Nat.reduceLT, ↓reduceIte, reduceCtorEq, hl, e4, e6, e7, e8, e9, e26]
          rw [AW_drawn, AE_drawnK (Ksub.cons k13 (Ksub.cons k77 Ksub.nil)) (by kernel_rfl)]
          have ol112 := S106.load (P := Try.prog) 1 rfl (t := 3) (off := 0) (v := .int .i64 x78.xID) (by simp only [apart, ag_3, sz_3]; rfl)
          obtain ⟨y113, qy113, wr133⟩ := obind wr133
          have og114 := fun (cf : CallF) (g : AH) => tab_hook (cf := cf) k13 (args := [.int .i64 x78.xID]) (v := .str y113) ((kf_13_eq x78.xID).trans (by rw [qy113]; rfl)) g
          have ol115 := S106.load (P := Try.prog) 1 rfl (t := 9) (off := 1) (v := .str x78.xData) (by simp only [apart, ag_9, sz_9]; rfl)
          have ol116 := fun g : AH => alen_str (P := Try.prog) (h := g) (l := x78.xData) Try.underlying9
          obtain ⟨y117, qy117, wr133⟩ := obind wr133
          have og118 := fun (cf : CallF) (g : AH) => tab_hook (cf := cf) k13 (args := [.int .i64 (x78.xData.length : Int)]) (v := .str y117) ((kf_13_eq (x78.xData.length : Int)).trans (by rw [qy117]; rfl)) g
          obtain ⟨s119, qs119, wr133⟩ := obind wr133
          have os119 := cat_str qs119
          have ol120 := S106.load (P := Try.prog) 1 rfl (t := 9) (off := 1) (v := .str x78.xData) (by simp only [apart, ag_9, sz_9]; rfl)
          obtain ⟨s121, qs121, wr133⟩ := obind wr133
          have os121 := cat_str qs121
          obtain ⟨b122, qb122, wr133⟩ := obind wr133
          obtain ⟨p123, u124, h125, ow126, S127⟩ := S106.bwrite (T := tabOf K) k77 n69 n50 0 rfl qb122 m (by omega)
          have S128 : Sep h [] h125 [.bld i2 p123 u124 88 5 b122, .blk i84 [.int .i64 x78.xID, .str x78.xData] 47] := S127
          refine AE_joinR (fun e h' => h125 = h' ∧ e.length = 43 ∧ e.getD 4 .undef = .ptr i2 0 ∧ e.getD 7 .undef = ul ∧ e.getD 8 .undef = .int .i64 (l.length : Int) ∧ e.getD 9 .undef = .int .i64 s.2) (by
            simp only [↓WE, WA, WL, aop, ofValue, ofCell, isConst, abin, acall1, abuiltin, aun, AV.cells, AV.one, Nat.reduceAdd, Int.reduceLT, Int.reduceLE, ↓WD, W0, evalOp, Nat.reduceEqDiff, Nat.reduceLT, ↓reduceIte, reduceCtorEq, hl, e4, e6, e7, e8, e9, e26, fa_47_0, ol112, og114, fa_47_1, ol115, ol116, og118, os119, ol120, os121, ow126, tab_none n50]
            exact ⟨rfl, (by simp only [List.length_set, hl]), (by simp only [W0, Nat.reduceEqDiff, Nat.reduceLT, ↓reduceIte, hl, e4, e6, e7, e8, e9, e26]), (by simp only [W0, Nat.reduceEqDiff, Nat.reduceLT, ↓reduceIte, hl, e4, e6, e7, e8, e9, e26]), (by simp only [W0, Nat.reduceEqDiff, Nat.reduceLT, ↓reduceIte, hl, e4, e6, e7, e8, e9, e26]), (by simp only [W0, Nat.reduceEqDiff, Nat.reduceLT, ↓reduceIte, hl, e4, e6, e7, e8, e9, e26])⟩) ?_
          rintro envg129 _ ⟨rfl, hl, e4, e7, e8, e9⟩
          try simp only [↓WD, W0, evalOp, Nat.reduceEqDiff, Nat.reduceLT, ↓reduceIte, reduceCtorEq, hl, e4, e7, e8, e9]
          rw [AW_region]
          refine AE_joinR (fun e h' => h125 = h' ∧ e.length = 43 ∧ e.getD 4 .undef = .ptr i2 0 ∧ e.getD 7 .undef = ul ∧ e.getD 8 .undef = .int .i64 (l.length : Int) ∧ e.getD 9 .undef = .int .i64 (IntKind.i64.wrap (s.2 + 1))) (by
            simp only [↓WE, WA, WL, aop, ofValue, ofCell, isConst, abin, acall1, abuiltin, aun, AV.cells, AV.one, Nat.reduceAdd, Int.reduceLT, Int.reduceLE, ↓WD, W0, evalOp, Nat.reduceEqDiff, Nat.reduceLT, ↓reduceIte, reduceCtorEq, hl, e4, e7, e8, e9]
            exact ⟨rfl, (by simp only [List.length_set, hl]), (by simp only [W0, Nat.reduceEqDiff, Nat.reduceLT, ↓reduceIte, hl, e4, e7, e8, e9]), (by simp only [W0, Nat.reduceEqDiff, Nat.reduceLT, ↓reduceIte, hl, e4, e7, e8, e9]), (by simp only [W0, Nat.reduceEqDiff, Nat.reduceLT, ↓reduceIte, hl, e4, e7, e8, e9]), (by simp only [W0, Nat.reduceEqDiff, Nat.reduceLT, ↓reduceIte, hl, e4, e7, e8, e9])⟩) ?_
          rintro envg130 _ ⟨rfl, hl, e4, e7, e8, e9⟩
          try simp only [↓WD, W0, evalOp, Nat.reduceEqDiff, Nat.reduceLT, ↓reduceIte, reduceCtorEq, hl, e4, e7, e8, e9]
          obtain rfl := Option.some.inj wr133
          rw [KP_nil, QL_normal]
          exact ⟨_, rfl, p123, u124, (by simp only [List.length_set, hl]), (by simp only [W0, Nat.reduceEqDiff, Nat.reduceLT, ↓reduceIte, hl, e4, e7, e8, e9]), (by simp only [W0, Nat.reduceEqDiff, Nat.reduceLT, ↓reduceIte, hl, e4, e7, e8, e9]), (by simp only [W0, Nat.reduceEqDiff, Nat.reduceLT, ↓reduceIte, hl, e4, e7, e8, e9]), (by simp only [W0, Nat.reduceEqDiff, Nat.reduceLT, ↓reduceIte, hl, e4, e7, e8, e9]), S128.pick [0] (by decide) rfl⟩
    · rw [if_neg c77] at wr133
      try simp only [↓WD, W0, evalOp, Nat.reduceEqDiff, Nat.reduceLT, ↓reduceIte, reduceCtorEq, hl, e4, e7, e8, e9, e10]
      obtain rfl := Option.some.inj wr133
      rw [KP_nil, QL_exit]
      exact ⟨_, rfl, .inl ⟨_, p71, u72, rfl, rfl, (by simp only [List.length_set, hl]), (by simp only [W0, Nat.reduceEqDiff, Nat.reduceLT, ↓reduceIte, hl, e4, e7, e8, e9, e10]), S74⟩⟩
  · exact ⟨.val (.pointer none), .val (.slice none 0 0), (by simp only [List.length_set, hl]), (by simp only [W0, Nat.reduceEqDiff, Nat.reduceLT, ↓reduceIte, hl, e4, e7, e8, e9]), (by simp only [W0, Nat.reduceEqDiff, Nat.reduceLT, ↓reduceIte, hl, e4, e7, e8, e9]), (by simp only [W0, Nat.reduceEqDiff, Nat.reduceLT, ↓reduceIte, hl, e4, e7, e8, e9]), (by simp only [W0, Nat.reduceEqDiff, Nat.reduceLT, ↓reduceIte, hl, e4, e7, e8, e9]), S7⟩
  · intro x envr133 h137 hk
    rcases hk with ⟨t134, p135, u136, rfl, rfl, hl, e4, S138⟩ | ⟨t139, rfl, rfl, hl, e2, e3, S141⟩
    · skip
      rw [sumK_inl] at hF
      try simp only [↓WD, W0, evalOp, Nat.reduceEqDiff, Nat.reduceLT, ↓reduceIte, reduceCtorEq, hl, e4]
      rw [AW_region]
      have ow142 := S138.blen (T := tabOf K) n51 0 rfl m (by omega)
      refine AE_joinR (fun e h' => h137 = h' ∧ e.length = 43 ∧ e.getD 4 .undef = .ptr i2 0 ∧ e.getD 41 .undef = .bool (decide ((t134.length : Int) > 65535))) (by
        simp only [↓WE, WA, WL, aop, ofValue, ofCell, isConst, abin, acall1, abuiltin, aun, AV.cells, AV.one, Nat.reduceAdd, Int.reduceLT, Int.reduceLE, ↓WD, W0, evalOp, Nat.reduceEqDiff, Nat.reduceLT, ↓reduceIte, reduceCtorEq, hl, e4, ow142]
        exact ⟨rfl, (by simp only [List.length_set, hl]), (by simp only [W0, Nat.reduceEqDiff, Nat.reduceLT, ↓reduceIte, hl, e4]), (by simp only [W0, Nat.reduceEqDiff, Nat.reduceLT, ↓reduceIte, hl, e4])⟩) ?_
      rintro envg143 _ ⟨rfl, hl, e4, e41⟩
      try simp only [↓WD, W0, evalOp, Nat.reduceEqDiff, Nat.reduceLT, ↓reduceIte, reduceCtorEq, hl, e4, e41]
      refine CondK_dec (fun c146 => ?_) (fun c146 => ?_)
      · rw [if_pos c146] at hF
        try simp only [↓WD, W0, evalOp, Nat.reduceEqDiff, Nat.reduceLT, ↓reduceIte, reduceCtorEq, hl, e4, e41]
        rw [AW_region]
        refine AE_joinR (fun e h' => h137 = h' ∧ e.length = 43 ∧ e.getD 2 .undef = .str [] ∧ e.getD 3 .undef = .int .i64 7) (by
          simp only [↓WE, WA, WL, aop, ofValue, ofCell, isConst, abin, acall1, abuiltin, aun, AV.cells, AV.one, Nat.reduceAdd, Int.reduceLT, Int.reduceLE, ↓WD, W0, evalOp, Nat.reduceEqDiff, Nat.reduceLT, ↓reduceIte, reduceCtorEq, hl, e4, e41]
          exact ⟨rfl, (by simp only [List.length_set, hl]), (by simp only [W0, Nat.reduceEqDiff, Nat.reduceLT, ↓reduceIte, hl, e4, e41]), (by simp only [W0, Nat.reduceEqDiff, Nat.reduceLT, ↓reduceIte, hl, e4, e41])⟩) ?_
        rintro envg147 _ ⟨rfl, hl, e2, e3⟩
        try simp only [↓WD, W0, evalOp, Nat.reduceEqDiff, Nat.reduceLT, ↓reduceIte, reduceCtorEq, hl, e2, e3]
        refine KP_ret (vs := [.str [], .int .i64 7]) (by simp only [aresults, aresult, gs, List.length_set, Nat.reduceEqDiff, Nat.reduceLT, ↓reduceIte, hl, e2, e3]) ?_
        obtain rfl := Option.some.inj hF
        exact ⟨rfl, S138.pick [] (by decide) rfl⟩
      · rw [if_neg c146] at hF
        try simp only [↓WD, W0, evalOp, Nat.reduceEqDiff, Nat.reduceLT, ↓reduceIte, reduceCtorEq, hl, e4, e41]
        rw [AW_region]
        obtain ⟨_, q151, hF⟩ := obind hF
        obtain ⟨h148, ow149, S150⟩ := S138.bstring (T := tabOf K) n52 0 rfl (chkCap_le q151) rfl m (by omega)
        have S152 : Sep h [] h148 [] := S150
        refine AE_joinR (fun e h' => h148 = h' ∧ e.length = 43 ∧ e.getD 2 .undef = .str t134 ∧ e.getD 3 .undef = .int .i64 0) (by
          simp only [↓WE, WA, WL, aop, ofValue, ofCell, isConst, abin, acall1, abuiltin, aun, AV.cells, AV.one, Nat.reduceAdd, Int.reduceLT, Int.reduceLE, ↓WD, W0, evalOp, Nat.reduceEqDiff, Nat.reduceLT, ↓reduceIte, reduceCtorEq, hl, e4, e41, ow149]
          exact ⟨rfl, (by simp only [List.length_set, hl]), (by simp only [W0, Nat.reduceEqDiff, Nat.reduceLT, ↓reduceIte, hl, e4, e41]), (by simp only [W0, Nat.reduceEqDiff, Nat.reduceLT, ↓reduceIte, hl, e4, e41])⟩) ?_
        rintro envg153 _ ⟨rfl, hl, e2, e3⟩
        try simp only [↓WD, W0, evalOp, Nat.reduceEqDiff, Nat.reduceLT, ↓reduceIte, reduceCtorEq, hl, e2, e3]
        refine KP_ret (vs := [.str t134, .int .i64 0]) (by simp only [aresults, aresult, gs, List.length_set, Nat.reduceEqDiff, Nat.reduceLT, ↓reduceIte, hl, e2, e3]) ?_
        obtain rfl := Option.some.inj hF
        exact ⟨rfl, S152⟩
    · skip
      rw [sumK_inr] at hF
      try simp only [↓WD, W0, evalOp, Nat.reduceEqDiff, Nat.reduceLT, ↓reduceIte, reduceCtorEq, hl, e2, e3]
      refine KP_ret (vs := [.str [], .int .i64 1]) (by simp only [aresults, aresult, gs, List.length_set, Nat.reduceEqDiff, Nat.reduceLT, ↓reduceIte, hl, e2, e3]) ?_
      obtain rfl := Option.some.inj hF
      exact ⟨rfl, S141⟩
set_option maxRecDepth 100000 in
set_option maxHeartbeats 4000000 in
theorem W_field_U16 {K : PureK} (k46 : K 46 = some kf_46) (n16 : K 16 = none) (m : Nat) (hm : NF + 1 ≤ m) (h : AH) (s_ : List UInt8) (at_ : Int) {r : Int × Int} (hF : F_field_U16 s_ at_ = some r) :
    AR (acall Try.prog (hooksOf K) (drawnOf Try.prog (tabOf K)) m 16 [.str s_, .int .i64 at_] h) (fun v h' => v = .tup [.int .i64 r.1, .int .i64 r.2]) := by
  obtain ⟨m, rfl⟩ : ∃ k, m = k + 1 := ⟨m - 1, by omega⟩
  refine AR_call (hooksOf_none n16) Try.func16 rfl _ _ fun env hl he => ?_
  have e0 := he 0
  have e1 := he 1
  simp only [List.getD_cons_zero, List.getD_cons_succ] at e0 e1
  simp only [Try.f16] at hl ⊢
  simp only [List.length_cons, List.length_nil, Nat.reduceAdd, Nat.reduceSub] at hl
  clear he
  have S0 : Sep h [] h [] := Sep.nil h
  rw [F_field_U16] at hF
  try simp only [↓WD, W0, evalOp, Nat.reduceEqDiff, Nat.reduceLT, ↓reduceIte, reduceCtorEq, hl, e0, e1]
  rw [AW_region]
  refine AE_joinR (fun e h' => h = h' ∧ e.length = 17 ∧ e.getD 0 .undef = .str s_ ∧ e.getD 1 .undef = .int .i64 at_) (by
    simp only [↓WE, WA, WL, aop, ofValue, ofCell, isConst, abin, acall1, abuiltin, aun, AV.cells, AV.one, Nat.reduceAdd, Int.reduceLT, Int.reduceLE, ↓WD, W0, evalOp, Nat.reduceEqDiff, Nat.reduceLT, ↓reduceIte, reduceCtorEq, hl, e0, e1]
    exact ⟨rfl, (by simp only [List.length_set, hl]), (by simp only [W0, Nat.reduceEqDiff, Nat.reduceLT, ↓reduceIte, hl, e0, e1]), (by simp only [W0, Nat.reduceEqDiff, Nat.reduceLT, ↓reduceIte, hl, e0, e1])⟩) ?_
  rintro envg1 _ ⟨rfl, hl, e0, e1⟩
  try simp only [↓WD, W0, evalOp, Nat.reduceEqDiff, Nat.reduceLT, ↓reduceIte, reduceCtorEq, hl, e0, e1]
  rw [AW_region]
  obtain ⟨y2, qy2, hF⟩ := obind hF
  have og3 := fun (D : Drawn) (n : Nat) (g : AH) => call_hook (P := Try.prog) (D := D) k46 n (args := [.str s_, .int .i64 at_, .int .i64 2]) (v := .tup [.int .u64 y2.1, .int .i64 y2.2]) ((kf_46_eq s_ at_ 2).trans (by rw [qy2]; rfl)) g
  refine AE_joinR (fun e h' => h = h' ∧ e.length = 17 ∧ e.getD 6 .undef = .int .u64 y2.1 ∧ e.getD 7 .undef = .int .i64 y2.2) (by
    simp only [↓WE, WA, WL, aop, ofValue, ofCell, isConst, abin, acall1, abuiltin, aun, AV.cells, AV.one, Nat.reduceAdd, Int.reduceLT, Int.reduceLE, ↓WD, W0, evalOp, Nat.reduceEqDiff, Nat.reduceLT, ↓reduceIte, reduceCtorEq, hl, e0, e1, og3]
    exact ⟨rfl, (by simp only [List.length_set, hl]), (by simp only [W0, Nat.reduceEqDiff, Nat.reduceLT, ↓reduceIte, hl, e0, e1]), (by simp only [W0, Nat.reduceEqDiff, Nat.reduceLT, ↓reduceIte, hl, e0, e1])⟩) ?_
  rintro envg4 _ ⟨rfl, hl, e6, e7⟩
  try simp only [↓WD, W0, evalOp, Nat.reduceEqDiff, Nat.reduceLT, ↓reduceIte, reduceCtorEq, hl, e6, e7]
  rw [AW_region]
  have oc5 := fun g : AH => aconv_int (P := Try.prog) (h := g) (n := y2.1) (k' := .u64) Try.underlying25 Try.underlying3
  refine AE_joinR (fun e h' => h = h' ∧ e.length = 17 ∧ e.getD 4 .undef = .int .i64 (IntKind.i64.wrap y2.1) ∧ e.getD 5 .undef = .int .i64 y2.2) (by
    simp only [↓WE, WA, WL, aop, ofValue, ofCell, isConst, abin, acall1, abuiltin, aun, AV.cells, AV.one, Nat.reduceAdd, Int.reduceLT, Int.reduceLE, ↓WD, W0, evalOp, Nat.reduceEqDiff, Nat.reduceLT, ↓reduceIte, reduceCtorEq, hl, e6, e7, oc5]
    exact ⟨rfl, (by simp only [List.length_set, hl]), (by simp only [W0, Nat.reduceEqDiff, Nat.reduceLT, ↓reduceIte, hl, e6, e7]), (by simp only [W0, Nat.reduceEqDiff, Nat.reduceLT, ↓reduceIte, hl, e6, e7])⟩) ?_
  rintro envg6 _ ⟨rfl, hl, e4, e5⟩
  try simp only [↓WD, W0, evalOp, Nat.reduceEqDiff, Nat.reduceLT, ↓reduceIte, reduceCtorEq, hl, e4, e5]
  refine KP_ret (vs := [.int .i64 (IntKind.i64.wrap y2.1), .int .i64 y2.2]) (by simp only [aresults, aresult, gs, List.length_set, Nat.reduceEqDiff, Nat.reduceLT, ↓reduceIte, hl, e4, e5]) ?_
  obtain rfl := Option.some.inj hF
  exact rfl
set_option maxRecDepth 100000 in
set_option maxHeartbeats 4000000 in
theorem W_extra_Parse {K : PureK} (k16 : K 16 = some kf_16) (k47 : K 47 = some kf_47) (n21 : K 21 = none) (m : Nat) (hm : NF + 1 ≤ m) (h : AH) (s_ : List UInt8) {r : (List Gapi_Extra) × Int} (hF : F_extra_Parse s_ = some r) :
    AR (acall Try.prog (hooksOf K) (drawnOf Try.prog (tabOf K)) m 21 [.str s_] h) (fun v h' => ∃ w0 : AV, v = .tup [w0, .int .i64 r.2] ∧ Sep h [] h' [.row w0 47 2 (r.1.map Gapi_Extra.cells)]) := by
  obtain ⟨m, rfl⟩ : ∃ k, m = k + 1 := ⟨m - 1, by omega⟩
  refine AR_call (hooksOf_none n21) Try.func21 rfl _ _ fun env hl he => ?_
  have e0 := he 0
  simp only [List.getD_cons_zero, List.getD_cons_succ] at e0
  simp only [Try.f21] at hl ⊢
  simp only [List.length_cons, List.length_nil, Nat.reduceAdd, Nat.reduceSub] at hl
  clear he
  have S0 : Sep h [] h [] := Sep.nil h
  rw [F_extra_Parse] at hF
  try simp only [↓WD, W0, evalOp, Nat.reduceEqDiff, Nat.reduceLT, ↓reduceIte, reduceCtorEq, hl, e0]
  rw [AW_region]
  refine AE_joinR (fun e h' => h = h' ∧ e.length = 54 ∧ e.getD 0 .undef = .str s_) (by
    simp only [↓WE, WA, WL, aop, ofValue, ofCell, isConst, abin, acall1, abuiltin, aun, AV.cells, AV.one, Nat.reduceAdd, Int.reduceLT, Int.reduceLE, ↓WD, W0, evalOp, Nat.reduceEqDiff, Nat.reduceLT, ↓reduceIte, reduceCtorEq, hl, e0]
    exact ⟨rfl, (by simp only [List.length_set, hl]), (by simp only [W0, Nat.reduceEqDiff, Nat.reduceLT, ↓reduceIte, hl, e0])⟩) ?_
  rintro envg1 _ ⟨rfl, hl, e0⟩
  try simp only [↓WD, W0, evalOp, Nat.reduceEqDiff, Nat.reduceLT, ↓reduceIte, reduceCtorEq, hl, e0]
  rw [AW_region]
  refine AE_joinR (fun e h' => h = h' ∧ e.length = 54 ∧ e.getD 0 .undef = .str s_ ∧ e.getD 4 .undef = .val (.slice none 0 0)) (by
    simp only [↓WE, WA, WL, aop, ofValue, ofCell, isConst, abin, acall1, abuiltin, aun, AV.cells, AV.one, Nat.reduceAdd, Int.reduceLT, Int.reduceLE, ↓WD, W0, evalOp, Nat.reduceEqDiff, Nat.reduceLT, ↓reduceIte, reduceCtorEq, hl, e0]
    exact ⟨rfl, (by simp only [List.length_set, hl]), (by simp only [W0, Nat.reduceEqDiff, Nat.reduceLT, ↓reduceIte, hl, e0]), (by simp only [W0, Nat.reduceEqDiff, Nat.reduceLT, ↓reduceIte, hl, e0])⟩) ?_
  rintro envg2 _ ⟨rfl, hl, e0, e4⟩
  try simp only [↓WD, W0, evalOp, Nat.reduceEqDiff, Nat.reduceLT, ↓reduceIte, reduceCtorEq, hl, e0, e4]
  rw [AW_region]
  refine AE_joinR (fun e h' => h = h' ∧ e.length = 54 ∧ e.getD 0 .undef = .str s_ ∧ e.getD 4 .undef = .val (.slice none 0 0) ∧ e.getD 5 .undef = .int .i64 0) (by
    simp only [↓WE, WA, WL, aop, ofValue, ofCell, isConst, abin, acall1, abuiltin, aun, AV.cells, AV.one, Nat.reduceAdd, Int.reduceLT, Int.reduceLE, ↓WD, W0, evalOp, Nat.reduceEqDiff, Nat.reduceLT, ↓reduceIte, reduceCtorEq, hl, e0, e4]
    exact ⟨rfl, (by simp only [List.length_set, hl]), (by simp only [W0, Nat.reduceEqDiff, Nat.reduceLT, ↓reduceIte, hl, e0, e4]), (by simp only [W0, Nat.reduceEqDiff, Nat.reduceLT, ↓reduceIte, hl, e0, e4]), (by simp only [W0, Nat.reduceEqDiff, Nat.reduceLT, ↓reduceIte, hl, e0, e4])⟩) ?_
  rintro envg3 _ ⟨rfl, hl, e0, e4, e5⟩
  try simp only [↓WD, W0, evalOp, Nat.reduceEqDiff, Nat.reduceLT, ↓reduceIte, reduceCtorEq, hl, e0, e4, e5]
  have S46 : Sep h [] h [.row (.val (.slice none 0 0)) 47 2 (([] : List Gapi_Extra).map Gapi_Extra.cells)] := S0.nilrow 47 2
  obtain ⟨r92, qr92, hF⟩ := obind hF
  refine AW_lift (L_extra_Parse_1 s_) (fun s e h' => ∃ (u50 : AV), e.length = 54 ∧ e.getD 0 .undef = .str s_ ∧ e.getD 4 .undef = u50 ∧ e.getD 5 .undef = .int .i64 s.2 ∧ Sep h [] h' [.row u50 47 2 (s.1.map Gapi_Extra.cells)]) (fun r92 x e h' => (∃ (t93 : (List Gapi_Extra)), ∃ (u94 : AV), r92 = (.inl t93) ∧ x = .exit 0 ∧ e.length = 54 ∧ e.getD 4 .undef = u94 ∧ Sep h [] h' [.row u94 47 2 (t93.map Gapi_Extra.cells)]) ∨ (∃ (t97 : Unit), r92 = (.inr t97) ∧ x = .ret ∧ e.length = 54 ∧ e.getD 2 .undef = .val (.slice none 0 0) ∧ e.getD 3 .undef = .int .i64 2 ∧ Sep h [] h' [])) qr92 (by omega) ?_ ?_ ?_
  · rintro s envr92 h51 or92 ⟨u50, hl, e0, e4, e5, S52⟩ wr92
    rw [L_extra_Parse_1] at wr92
    try simp only [↓WD, W0, evalOp, Nat.reduceEqDiff, Nat.reduceLT, ↓reduceIte, reduceCtorEq, hl, e0, e4, e5]
    rw [AW_region]
    have ol53 := fun g : AH => alen_str (P := Try.prog) (h := g) (l := s_) Try.underlying9
    refine AE_joinR (fun e h' => h51 = h' ∧ e.length = 54 ∧ e.getD 0 .undef = .str s_ ∧ e.getD 4 .undef = u50 ∧ e.getD 5 .undef = .int .i64 s.2 ∧ e.getD 15 .undef = .bool (decide (s.2 < (s_.length : Int)))) (by
      simp only [↓WE, WA, WL, aop, ofValue, ofCell, isConst, abin, acall1, abuiltin, aun, AV.cells, AV.one, Nat.reduceAdd, Int.reduceLT, Int.reduceLE, ↓WD, W0, evalOp, Nat.reduceEqDiff, Nat.reduceLT, ↓reduceIte, reduceCtorEq, hl, e0, e4, e5, ol53]
      exact ⟨rfl, (by simp only [List.length_set, hl]), (by simp only [W0, Nat.reduceEqDiff, Nat.reduceLT, ↓reduceIte, hl, e0, e4, e5]), (by simp only [W0, Nat.reduceEqDiff, Nat.reduceLT, ↓reduceIte, hl, e0, e4, e5]), (by simp only [W0, Nat.reduceEqDiff, Nat.reduceLT, ↓reduceIte, hl, e0, e4, e5]), (by simp only [W0, Nat.reduceEqDiff, Nat.reduceLT, ↓reduceIte, hl, e0, e4, e5])⟩) ?_
    rintro envg54 _ ⟨rfl, hl, e0, e4, e5, e15⟩
    try simp only [↓WD, W0, evalOp, Nat.reduceEqDiff, Nat.reduceLT, ↓reduceIte, reduceCtorEq, hl, e0, e4, e5, e15]
    refine CondK_dec (fun c56 => ?_) (fun c56 => ?_)
    · rw [if_pos c56] at wr92
      try simp only [↓WD, W0, evalOp, Nat.reduceEqDiff, Nat.reduceLT, ↓reduceIte, reduceCtorEq, hl, e0, e4, e5, e15]
      rw [AW_region]
      obtain ⟨y57, qy57, wr92⟩ := obind wr92
      have og58 := fun (D : Drawn) (n : Nat) (g : AH) => call_hook (P := Try.prog) (D := D) k16 n (args := [.str s_, .int .i64 s.2]) (v := .tup [.int .i64 y57.1, .int .i64 y57.2]) ((kf_16_eq s_ s.2).trans (by rw [qy57]; rfl)) g
      refine AE_joinR (fun e h' => h51 = h' ∧ e.length = 54 ∧ e.getD 0 .undef = .str s_ ∧ e.getD 4 .undef = u50 ∧ e.getD 5 .undef = .int .i64 s.2 ∧ e.getD 6 .undef = .int .i64 y57.1) (by
        simp only [↓WE, WA, WL, aop, ofValue, ofCell, isConst, abin, acall1, abuiltin, aun, AV.cells, AV.one, Nat.reduceAdd, Int.reduceLT, Int.reduceLE, ↓WD, W0, evalOp, Nat.reduceEqDiff, Nat.reduceLT, ↓reduceIte, reduceCtorEq, hl, e0, e4, e5, e15, og58]
        exact ⟨rfl, (by simp only [List.length_set, hl]), (by simp only [W0, Nat.reduceEqDiff, Nat.reduceLT, ↓reduceIte, hl, e0, e4, e5, e15]), (by simp only [W0, Nat.reduceEqDiff, Nat.reduceLT, ↓reduceIte, hl, e0, e4, e5, e15]), (by simp only [W0, Nat.reduceEqDiff, Nat.reduceLT, ↓reduceIte, hl, e0, e4, e5, e15]), (by simp only [W0, Nat.reduceEqDiff, Nat.reduceLT, ↓reduceIte, hl, e0, e4, e5, e15])⟩) ?_
      rintro envg59 _ ⟨rfl, hl, e0, e4, e5, e6⟩
      try simp only [↓WD, W0, evalOp, Nat.reduceEqDiff, Nat.reduceLT, ↓reduceIte, reduceCtorEq, hl, e0, e4, e5, e6]
      rw [AW_region]
      obtain ⟨y60, qy60, wr92⟩ := obind wr92
      have og61 := fun (D : Drawn) (n : Nat) (g : AH) => call_hook (P := Try.prog) (D := D) k16 n (args := [.str s_, .int .i64 (IntKind.i64.wrap (s.2 + 2))]) (v := .tup [.int .i64 y60.1, .int .i64 y60.2]) ((kf_16_eq s_ (IntKind.i64.wrap (s.2 + 2))).trans (by rw [qy60]; rfl)) g
      refine AE_joinR (fun e h' => h51 = h' ∧ e.length = 54 ∧ e.getD 0 .undef = .str s_ ∧ e.getD 4 .undef = u50 ∧ e.getD 5 .undef = .int .i64 s.2 ∧ e.getD 6 .undef = .int .i64 y57.1 ∧ e.getD 8 .undef = .int .i64 y60.1 ∧ e.getD 9 .undef = .int .i64 y60.2) (by
        simp only [↓WE, WA, WL, aop, ofValue, ofCell, isConst, abin, acall1, abuiltin, aun, AV.cells, AV.one, Nat.reduceAdd, Int.reduceLT, Int.reduceLE, ↓WD, W0, evalOp, Nat.reduceEqDiff, Nat.reduceLT, ↓reduceIte, reduceCtorEq, hl, e0, e4, e5, e6, og61]
        exact ⟨rfl, (by simp only [List.length_set, hl]), (by simp only [W0, Nat.reduceEqDiff, Nat.reduceLT, ↓reduceIte, hl, e0, e4, e5, e6]), (by simp only [W0, Nat.reduceEqDiff, Nat.reduceLT, ↓reduceIte, hl, e0, e4, e5, e6]), (by simp only [W0, Nat.reduceEqDiff, Nat.reduceLT, ↓reduceIte, hl, e0, e4, e5, e6]), (by simp only [W0, Nat.reduceEqDiff, Nat.reduceLT, ↓reduceIte, hl, e0, e4, e5, e6]), (by simp only [W0, Nat.reduceEqDiff, Nat.reduceLT, ↓reduceIte, hl, e0, e4, e5, e6]), (by simp only [W0, Nat.reduceEqDiff, Nat.reduceLT, ↓reduceIte, hl, e0, e4, e5, e6])⟩) ?_
      rintro envg62 _ ⟨rfl, hl, e0, e4, e5, e6, e8, e9⟩
      try simp only [↓WD, W0, evalOp, Nat.reduceEqDiff, Nat.reduceLT, ↓reduceIte, reduceCtorEq, hl, e0, e4, e5, e6, e8, e9]
      rw [AW_region]
      obtain ⟨y63, qy63, wr92⟩ := obind wr92
      have og64 := fun (D : Drawn) (n : Nat) (g : AH) => call_hook (P := Try.prog) (D := D) k47 n (args := [.str s_, .int .i64 (IntKind.i64.wrap (s.2 + 4)), .int .i64 y60.1]) (v := .tup [.str y63.1, .int .i64 y63.2]) ((kf_47_eq s_ (IntKind.i64.wrap (s.2 + 4)) y60.1).trans (by rw [qy63]; rfl)) g
      refine AE_joinR (fun e h' => h51 = h' ∧ e.length = 54 ∧ e.getD 0 .undef = .str s_ ∧ e.getD 4 .undef = u50 ∧ e.getD 5 .undef = .int .i64 s.2 ∧ e.getD 6 .undef = .int .i64 y57.1 ∧ e.getD 8 .undef = .int .i64 y60.1 ∧ e.getD 9 .undef = .int .i64 y60.2 ∧ e.getD 10 .undef = .str y63.1 ∧ e.getD 11 .undef = .int .i64 y63.2) (by
        simp only [↓WE, WA, WL, aop, ofValue, ofCell, isConst, abin, acall1, abuiltin, aun, AV.cells, AV.one, Nat.reduceAdd, Int.reduceLT, Int.reduceLE, ↓WD, W0, evalOp, Nat.reduceEqDiff, Nat.reduceLT, ↓reduceIte, reduceCtorEq, hl, e0, e4, e5, e6, e8, e9, og64]
        exact ⟨rfl, (by simp only [List.length_set, hl]), (by simp only [W0, Nat.reduceEqDiff, Nat.reduceLT, ↓reduceIte, hl, e0, e4, e5, e6, e8, e9]), (by simp only [W0, Nat.reduceEqDiff, Nat.reduceLT, ↓reduceIte, hl, e0, e4, e5, e6, e8, e9]), (by simp only [W0, Nat.reduceEqDiff, Nat.reduceLT, ↓reduceIte, hl, e0, e4, e5, e6, e8, e9]), (by simp only [W0, Nat.reduceEqDiff, Nat.reduceLT, ↓reduceIte, hl, e0, e4, e5, e6, e8, e9]), (by simp only [W0, Nat.reduceEqDiff, Nat.reduceLT, ↓reduceIte, hl, e0, e4, e5, e6, e8, e9]), (by simp only [W0, Nat.reduceEqDiff, Nat.reduceLT, ↓reduceIte, hl, e0, e4, e5, e6, e8, e9]), (by simp only [W0, Nat.reduceEqDiff, Nat.reduceLT, ↓reduceIte, hl, e0, e4, e5, e6, e8, e9]), (by simp only [W0, Nat.reduceEqDiff, Nat.reduceLT, ↓reduceIte, hl, e0, e4, e5, e6, e8, e9])⟩) ?_
      rintro envg65 _ ⟨rfl, hl, e0, e4, e5, e6, e8, e9, e10, e11⟩
      try simp only [↓WD, W0, evalOp, Nat.reduceEqDiff, Nat.reduceLT, ↓reduceIte, reduceCtorEq, hl, e0, e4, e5, e6, e8, e9, e10, e11]
      rw [AW_region]
      obtain ⟨j69, qj69, wr92⟩ := obind wr92
      refine AE_joinR (fun e h' => e.length = 54 ∧ e.getD 0 .undef = .str s_ ∧ e.getD 4 .undef = u50 ∧ e.getD 5 .undef = .int .i64 s.2 ∧ e.getD 6 .undef = .int .i64 y57.1 ∧ e.getD 8 .undef = .int .i64 y60.1 ∧ e.getD 10 .undef = .str y63.1 ∧ e.getD 42 .undef = .bool j69 ∧ Sep h [] h' [.row u50 47 2 (s.1.map Gapi_Extra.cells)]) ?_ ?_
      · simp only [↓WE, WA, WL, aop, ofValue, ofCell, isConst, abin, acall1, abuiltin, aun, AV.cells, AV.one, Nat.reduceAdd, Int.reduceLT, Int.reduceLE, ↓WD, W0, evalOp, Nat.reduceEqDiff, Nat.reduceLT, ↓reduceIte, reduceCtorEq, hl, e0, e4, e5, e6, e8, e9, e10, e11]
        refine GuardW_boo (fun c66 => ?_) (fun c66 => ?_)
        · rw [if_pos c66] at qj69
          have d67 := c66
          simp only [↓WE, WA, WL, aop, ofValue, ofCell, isConst, abin, acall1, abuiltin, aun, AV.cells, AV.one, Nat.reduceAdd, Int.reduceLT, Int.reduceLE, ↓WD, W0, evalOp, Nat.reduceEqDiff, Nat.reduceLT, ↓reduceIte, reduceCtorEq, hl, e0, e4, e5, e6, e8, e9, e10, e11, d67]
          obtain rfl := Option.some.inj qj69
          exact ⟨(by simp only [List.length_set, hl]), (by simp only [W0, Nat.reduceEqDiff, Nat.reduceLT, ↓reduceIte, hl, e0, e4, e5, e6, e8, e9, e10, e11]), (by simp only [W0, Nat.reduceEqDiff, Nat.reduceLT, ↓reduceIte, hl, e0, e4, e5, e6, e8, e9, e10, e11]), (by simp only [W0, Nat.reduceEqDiff, Nat.reduceLT, ↓reduceIte, hl, e0, e4, e5, e6, e8, e9, e10, e11]), (by simp only [W0, Nat.reduceEqDiff, Nat.reduceLT, ↓reduceIte, hl, e0, e4, e5, e6, e8, e9, e10, e11]), (by simp only [W0, Nat.reduceEqDiff, Nat.reduceLT, ↓reduceIte, hl, e0, e4, e5, e6, e8, e9, e10, e11]), (by simp only [W0, Nat.reduceEqDiff, Nat.reduceLT, ↓reduceIte, hl, e0, e4, e5, e6, e8, e9, e10, e11]), (by simp only [W0, Nat.reduceEqDiff, Nat.reduceLT, ↓reduceIte, hl, e0, e4, e5, e6, e8, e9, e10, e11]), S52⟩
        · rw [if_neg (nf c66)] at qj69
          have d68 := c66
          simp only [↓WE, WA, WL, aop, ofValue, ofCell, isConst, abin, acall1, abuiltin, aun, AV.cells, AV.one, Nat.reduceAdd, Int.reduceLT, Int.reduceLE, ↓WD, W0, evalOp, Nat.reduceEqDiff, Nat.reduceLT, ↓reduceIte, reduceCtorEq, hl, e0, e4, e5, e6, e8, e9, e10, e11, d68]
          obtain rfl := Option.some.inj qj69
          exact ⟨(by simp only [List.length_set, hl]), (by simp only [W0, Nat.reduceEqDiff, Nat.reduceLT, ↓reduceIte, hl, e0, e4, e5, e6, e8, e9, e10, e11]), (by simp only [W0, Nat.reduceEqDiff, Nat.reduceLT, ↓reduceIte, hl, e0, e4, e5, e6, e8, e9, e10, e11]), (by simp only [W0, Nat.reduceEqDiff, Nat.reduceLT, ↓reduceIte, hl, e0, e4, e5, e6, e8, e9, e10, e11]), (by simp only [W0, Nat.reduceEqDiff, Nat.reduceLT, ↓reduceIte, hl, e0, e4, e5, e6, e8, e9, e10, e11]), (by simp only [W0, Nat.reduceEqDiff, Nat.reduceLT, ↓reduceIte, hl, e0, e4, e5, e6, e8, e9, e10, e11]), (by simp only [W0, Nat.reduceEqDiff, Nat.reduceLT, ↓reduceIte, hl, e0, e4, e5, e6, e8, e9, e10, e11]), (by simp only [W0, Nat.reduceEqDiff, Nat.reduceLT, ↓reduceIte, hl, e0, e4, e5, e6, e8, e9, e10, e11]), S52⟩
      · rintro envj69 h71 ⟨hl, e0, e4, e5, e6, e8, e10, e42, S70⟩
        try simp only [↓WD, W0, evalOp, Nat.reduceEqDiff, Nat.reduceLT, ↓reduceIte, reduceCtorEq, hl, e0, e4, e5, e6, e8, e10, e42]
        refine CondK_boo (fun c74 => ?_) (fun c74 => ?_)
        · rw [if_pos c74] at wr92
          try simp only [↓WD, W0, evalOp, Nat.reduceEqDiff, Nat.reduceLT, ↓reduceIte, reduceCtorEq, hl, e0, e4, e5, e6, e8, e10, e42]
          rw [AW_region]
          refine AE_joinR (fun e h' => h71 = h' ∧ e.length = 54 ∧ e.getD 2 .undef = .val (.slice none 0 0) ∧ e.getD 3 .undef = .int .i64 2) (by
            simp only [↓WE, WA, WL, aop, ofValue, ofCell, isConst, abin, acall1, abuiltin, aun, AV.cells, AV.one, Nat.reduceAdd, Int.reduceLT, Int.reduceLE, ↓WD, W0, evalOp, Nat.reduceEqDiff, Nat.reduceLT, ↓reduceIte, reduceCtorEq, hl, e0, e4, e5, e6, e8, e10, e42]
            exact ⟨rfl, (by simp only [List.length_set, hl]), (by simp only [W0, Nat.reduceEqDiff, Nat.reduceLT, ↓reduceIte, hl, e0, e4, e5, e6, e8, e10, e42]), (by simp only [W0, Nat.reduceEqDiff, Nat.reduceLT, ↓reduceIte, hl, e0, e4, e5, e6, e8, e10, e42])⟩) ?_
          rintro envg75 _ ⟨rfl, hl, e2, e3⟩
          try simp only [↓WD, W0, evalOp, Nat.reduceEqDiff, Nat.reduceLT, ↓reduceIte, reduceCtorEq, hl, e2, e3]
          obtain rfl := Option.some.inj wr92
          rw [KP_nil, QL_ret]
          exact ⟨_, rfl, .inr (⟨_, rfl, rfl, (by simp only [List.length_set, hl]), (by simp only [W0, Nat.reduceEqDiff, Nat.reduceLT, ↓reduceIte, hl, e2, e3]), (by simp only [W0, Nat.reduceEqDiff, Nat.reduceLT, ↓reduceIte, hl, e2, e3]), S70.pick [] (by decide) rfl⟩)⟩
        · rw [if_neg (nf c74)] at wr92
          try simp only [↓WD, W0, evalOp, Nat.reduceEqDiff, Nat.reduceLT, ↓reduceIte, reduceCtorEq, hl, e0, e4, e5, e6, e8, e10, e42]
          rw [AW_region]
          obtain ⟨u76, h77, ob78, S79⟩ := Sep.build (P := Try.prog) sl_35 S70 [.agg [.int .i64 y57.1, .str y63.1]] (([(⟨y57.1, y63.1⟩ : Gapi_Extra)] : List Gapi_Extra).map Gapi_Extra.cells) rfl (by simp [Gapi_Extra.cells]) (by simp)
          have ob78 : abuildSlice Try.prog 35 1 [(0, .agg [.int .i64 y57.1, .str y63.1])] h71 = some (u76, h77) := ob78
          have S81 : Sep h [] h77 [.row u50 47 2 (s.1.map Gapi_Extra.cells), .row u76 47 2 (([(⟨y57.1, y63.1⟩ : Gapi_Extra)] : List Gapi_Extra).map Gapi_Extra.cells)] := S79
          obtain ⟨zs82, qzs82, wr92⟩ := obind wr92
          obtain ⟨u83, h84, op85, S86⟩ := Sep.append (P := Try.prog) (t' := 35) sl_35 (by rw [Try.underlying35]; rfl) S81 0 rfl (S81.row_ro (i := 1) rfl) (fun _ => rfl) qzs82
          have S87 : Sep h [] h84 [.row u83 47 2 (zs82.map Gapi_Extra.cells), .row u76 47 2 (([(⟨y57.1, y63.1⟩ : Gapi_Extra)] : List Gapi_Extra).map Gapi_Extra.cells)] := S86
          refine AE_joinR (fun e h' => h84 = h' ∧ e.length = 54 ∧ e.getD 0 .undef = .str s_ ∧ e.getD 4 .undef = u83 ∧ e.getD 5 .undef = .int .i64 s.2 ∧ e.getD 8 .undef = .int .i64 y60.1) (by
            simp only [↓WE, WA, WL, aop, ofValue, ofCell, isConst, abin, acall1, abuiltin, aun, AV.cells, AV.one, Nat.reduceAdd, Int.reduceLT, Int.reduceLE, ↓WD, W0, evalOp, Nat.reduceEqDiff, Nat.reduceLT, ↓reduceIte, reduceCtorEq, hl, e0, e4, e5, e6, e8, e10, e42, bd_47_0_1, ob78, op85]
            exact ⟨rfl, (by simp only [List.length_set, hl]), (by simp only [W0, Nat.reduceEqDiff, Nat.reduceLT, ↓reduceIte, hl, e0, e4, e5, e6, e8, e10, e42]), (by simp only [W0, Nat.reduceEqDiff, Nat.reduceLT, ↓reduceIte, hl, e0, e4, e5, e6, e8, e10, e42]), (by simp only [W0, Nat.reduceEqDiff, Nat.reduceLT, ↓reduceIte, hl, e0, e4, e5, e6, e8, e10, e42]), (by simp only [W0, Nat.reduceEqDiff, Nat.reduceLT, ↓reduceIte, hl, e0, e4, e5, e6, e8, e10, e42])⟩) ?_
          rintro envg88 _ ⟨rfl, hl, e0, e4, e5, e8⟩
          try simp only [↓WD, W0, evalOp, Nat.reduceEqDiff, Nat.reduceLT, ↓reduceIte, reduceCtorEq, hl, e0, e4, e5, e8]
          rw [AW_region]
          refine AE_joinR (fun e h' => h84 = h' ∧ e.length = 54 ∧ e.getD 0 .undef = .str s_ ∧ e.getD 4 .undef = u83 ∧ e.getD 5 .undef = .int .i64 (IntKind.i64.wrap (s.2 + (IntKind.i64.wrap (4 + y60.1))))) (by
            simp only [↓WE, WA, WL, aop, ofValue, ofCell, isConst, abin, acall1, abuiltin, aun, AV.cells, AV.one, Nat.reduceAdd, Int.reduceLT, Int.reduceLE, ↓WD, W0, evalOp, Nat.reduceEqDiff, Nat.reduceLT, ↓reduceIte, reduceCtorEq, hl, e0, e4, e5, e8]
            exact ⟨rfl, (by simp only [List.length_set, hl]), (by simp only [W0, Nat.reduceEqDiff, Nat.reduceLT, ↓reduceIte, hl, e0, e4, e5, e8]), (by simp only [W0, Nat.reduceEqDiff, Nat.reduceLT, ↓reduceIte, hl, e0, e4, e5, e8]), (by simp only [W0, Nat.reduceEqDiff, Nat.reduceLT, ↓reduceIte, hl, e0, e4, e5, e8])⟩) ?_
          rintro envg89 _ ⟨rfl, hl, e0, e4, e5⟩
          try simp only [↓WD, W0, evalOp, Nat.reduceEqDiff, Nat.reduceLT, ↓reduceIte, reduceCtorEq, hl, e0, e4, e5]
          obtain rfl := Option.some.inj wr92
          rw [KP_nil, QL_normal]
          exact ⟨_, rfl, u83, (by simp only [List.length_set, hl]), (by simp only [W0, Nat.reduceEqDiff, Nat.reduceLT, ↓reduceIte, hl, e0, e4, e5]), (by simp only [W0, Nat.reduceEqDiff, Nat.reduceLT, ↓reduceIte, hl, e0, e4, e5]), (by simp only [W0, Nat.reduceEqDiff, Nat.reduceLT, ↓reduceIte, hl, e0, e4, e5]), S87.pick [0] (by decide) rfl⟩
    · rw [if_neg c56] at wr92
      try simp only [↓WD, W0, evalOp, Nat.reduceEqDiff, Nat.reduceLT, ↓reduceIte, reduceCtorEq, hl, e0, e4, e5, e15]
      obtain rfl := Option.some.inj wr92
      rw [KP_nil, QL_exit]
      exact ⟨_, rfl, .inl ⟨_, u50, rfl, rfl, (by simp only [List.length_set, hl]), (by simp only [W0, Nat.reduceEqDiff, Nat.reduceLT, ↓reduceIte, hl, e0, e4, e5, e15]), S52⟩⟩
  · exact ⟨.val (.slice none 0 0), (by simp only [List.length_set, hl]), (by simp only [W0, Nat.reduceEqDiff, Nat.reduceLT, ↓reduceIte, hl, e0, e4, e5]), (by simp only [W0, Nat.reduceEqDiff, Nat.reduceLT, ↓reduceIte, hl, e0, e4, e5]), (by simp only [W0, Nat.reduceEqDiff, Nat.reduceLT, ↓reduceIte, hl, e0, e4, e5]), S46⟩
  · intro x envr92 h95 hk
    rcases hk with ⟨t93, u94, rfl, rfl, hl, e4, S96⟩ | ⟨t97, rfl, rfl, hl, e2, e3, S99⟩
    · skip
      rw [sumK_inl] at hF
      try simp only [↓WD, W0, evalOp, Nat.reduceEqDiff, Nat.reduceLT, ↓reduceIte, reduceCtorEq, hl, e4]
      rw [AW_region]
      refine AE_joinR (fun e h' => h95 = h' ∧ e.length = 54 ∧ e.getD 2 .undef = u94 ∧ e.getD 3 .undef = .int .i64 0) (by
        simp only [↓WE, WA, WL, aop, ofValue, ofCell, isConst, abin, acall1, abuiltin, aun, AV.cells, AV.one, Nat.reduceAdd, Int.reduceLT, Int.reduceLE, ↓WD, W0, evalOp, Nat.reduceEqDiff, Nat.reduceLT, ↓reduceIte, reduceCtorEq, hl, e4]
        exact ⟨rfl, (by simp only [List.length_set, hl]), (by simp only [W0, Nat.reduceEqDiff, Nat.reduceLT, ↓reduceIte, hl, e4]), (by simp only [W0, Nat.reduceEqDiff, Nat.reduceLT, ↓reduceIte, hl, e4])⟩) ?_
      rintro envg100 _ ⟨rfl, hl, e2, e3⟩
      try simp only [↓WD, W0, evalOp, Nat.reduceEqDiff, Nat.reduceLT, ↓reduceIte, reduceCtorEq, hl, e2, e3]
      refine KP_ret (vs := [u94, .int .i64 0]) (by simp only [aresults, aresult, gs, List.length_set, Nat.reduceEqDiff, Nat.reduceLT, ↓reduceIte, hl, e2, e3]) ?_
      obtain rfl := Option.some.inj hF
      exact ⟨u94, rfl, S96⟩
    · skip
      rw [sumK_inr] at hF
      try simp only [↓WD, W0, evalOp, Nat.reduceEqDiff, Nat.reduceLT, ↓reduceIte, reduceCtorEq, hl, e2, e3]
      have S102 : Sep h [] h95 [.row (.val (.slice none 0 0)) 47 2 (([] : List Gapi_Extra).map Gapi_Extra.cells)] := S99.nilrow 47 2
      refine KP_ret (vs := [.val (.slice none 0 0), .int .i64 2]) (by simp only [aresults, aresult, gs, List.length_set, Nat.reduceEqDiff, Nat.reduceLT, ↓reduceIte, hl, e2, e3]) ?_
      obtain rfl := Option.some.inj hF
      exact ⟨.val (.slice none 0 0), rfl, S102⟩
end Go.Proofs.YtikkpmmhejjpaaaM
