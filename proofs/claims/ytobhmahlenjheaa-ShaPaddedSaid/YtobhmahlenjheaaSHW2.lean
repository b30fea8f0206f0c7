/- The abstract machine computes what the plain functions say: printed by lift.py. -/
import Derived.Test.YtobhmahlenjheaaSHW1
import Derived.KernelRfl
set_option linter.unusedSimpArgs false
set_option linter.unusedVariables false
namespace Go.Proofs.YtobhmahlenjheaaM
open Go Go.RowKit
set_option maxRecDepth 100000 in
set_option maxHeartbeats 4000000 in
theorem W_ref04_roots {K : PureK} (k98 : K 98 = some kf_98) (n97 : K 97 = none) (n58 : K 58 = none) (m : Nat) (hm : NF + 2 ≤ m) (h : AH) (n_ : Int) (power : Int) {r : (List Int)} (hF : F_ref04_roots n_ power = some r) :
    AR (acall Try.prog (hooksOf K) (drawnOf Try.prog (tabOf K)) m 58 [.int .i64 n_, .int .i64 power] h) (fun v h' => ∃ w0 : AV, v = w0 ∧ Sep h [] h' [.row w0 85 1 (r.map (cellI .u32))]) := by
  obtain ⟨m, rfl⟩ : ∃ k, m = k + 1 := ⟨m - 1, by omega⟩
  refine AR_call (hooksOf_none n58) Try.func58 rfl _ _ fun env hl he => ?_
  have e0 := he 0
  have e1 := he 1
  simp only [List.getD_cons_zero, List.getD_cons_succ] at e0 e1
  simp only [Try.f58] at hl ⊢
  simp only [List.length_cons, List.length_nil, Nat.reduceAdd, Nat.reduceSub] at hl
  clear he
  have S0 : Sep h [] h [] := Sep.nil h
  rw [F_ref04_roots] at hF
  try simp only [↓WD, W0, evalOp, Nat.reduceEqDiff, Nat.reduceLT, ↓reduceIte, reduceCtorEq, hl, e0, e1]
  rw [AW_region]
  refine AE_joinR (fun e h' => h = h' ∧ e.length = 25 ∧ e.getD 0 .undef = .int .i64 n_ ∧ e.getD 1 .undef = .int .i64 power) (by
    simp only [↓WE, WA, WL, aop, ofValue, ofCell, isConst, abin, acall1, abuiltin, aun, AV.cells, AV.one, Nat.reduceAdd, Int.reduceLT, Int.reduceLE, ↓WD, W0, evalOp, Nat.reduceEqDiff, Nat.reduceLT, ↓reduceIte, reduceCtorEq, hl, e0, e1]
    exact ⟨rfl, (by simp only [List.length_set, hl]), (by simp only [W0, Nat.reduceEqDiff, Nat.reduceLT, ↓reduceIte, hl, e0, e1]), (by simp only [W0, Nat.reduceEqDiff, Nat.reduceLT, ↓reduceIte, hl, e0, e1])⟩) ?_
  rintro envg1 _ ⟨rfl, hl, e0, e1⟩
  try simp only [↓WD, W0, evalOp, Nat.reduceEqDiff, Nat.reduceLT, ↓reduceIte, reduceCtorEq, hl, e0, e1]
  rw [AW_region]
  obtain ⟨y2, qy2, hF⟩ := obind hF
  obtain ⟨u6, h4, og3, _, rfl, S5⟩ := (W_ref04_primes n97 m (by omega) h n_ qy2).out
  have S9 : Sep h [] h4 [.row u6 24 1 (y2.map (cellI .u64))] := S0.call0 S5
  refine AE_joinR (fun e h' => h4 = h' ∧ e.length = 25 ∧ e.getD 0 .undef = .int .i64 n_ ∧ e.getD 1 .undef = .int .i64 power ∧ e.getD 5 .undef = u6) (by
    simp only [↓WE, WA, WL, aop, ofValue, ofCell, isConst, abin, acall1, abuiltin, aun, AV.cells, AV.one, Nat.reduceAdd, Int.reduceLT, Int.reduceLE, ↓WD, W0, evalOp, Nat.reduceEqDiff, Nat.reduceLT, ↓reduceIte, reduceCtorEq, hl, e0, e1, og3]
    exact ⟨rfl, (by simp only [List.length_set, hl]), (by simp only [W0, Nat.reduceEqDiff, Nat.reduceLT, ↓reduceIte, hl, e0, e1]), (by simp only [W0, Nat.reduceEqDiff, Nat.reduceLT, ↓reduceIte, hl, e0, e1]), (by simp only [W0, Nat.reduceEqDiff, Nat.reduceLT, ↓reduceIte, hl, e0, e1])⟩) ?_
  rintro envg10 _ ⟨rfl, hl, e0, e1, e5⟩
  try simp only [↓WD, W0, evalOp, Nat.reduceEqDiff, Nat.reduceLT, ↓reduceIte, reduceCtorEq, hl, e0, e1, e5]
  rw [AW_region]
  refine AE_joinR (fun e h' => h4 = h' ∧ e.length = 25 ∧ e.getD 0 .undef = .int .i64 n_ ∧ e.getD 1 .undef = .int .i64 power ∧ e.getD 5 .undef = u6 ∧ e.getD 6 .undef = .val (.slice none 0 0)) (by
    simp only [↓WE, WA, WL, aop, ofValue, ofCell, isConst, abin, acall1, abuiltin, aun, AV.cells, AV.one, Nat.reduceAdd, Int.reduceLT, Int.reduceLE, ↓WD, W0, evalOp, Nat.reduceEqDiff, Nat.reduceLT, ↓reduceIte, reduceCtorEq, hl, e0, e1, e5]
    exact ⟨rfl, (by simp only [List.length_set, hl]), (by simp only [W0, Nat.reduceEqDiff, Nat.reduceLT, ↓reduceIte, hl, e0, e1, e5]), (by simp only [W0, Nat.reduceEqDiff, Nat.reduceLT, ↓reduceIte, hl, e0, e1, e5]), (by simp only [W0, Nat.reduceEqDiff, Nat.reduceLT, ↓reduceIte, hl, e0, e1, e5]), (by simp only [W0, Nat.reduceEqDiff, Nat.reduceLT, ↓reduceIte, hl, e0, e1, e5])⟩) ?_
  rintro envg11 _ ⟨rfl, hl, e0, e1, e5, e6⟩
  try simp only [↓WD, W0, evalOp, Nat.reduceEqDiff, Nat.reduceLT, ↓reduceIte, reduceCtorEq, hl, e0, e1, e5, e6]
  rw [AW_region]
  refine AE_joinR (fun e h' => h4 = h' ∧ e.length = 25 ∧ e.getD 0 .undef = .int .i64 n_ ∧ e.getD 1 .undef = .int .i64 power ∧ e.getD 5 .undef = u6 ∧ e.getD 6 .undef = .val (.slice none 0 0) ∧ e.getD 7 .undef = .int .i64 0) (by
    simp only [↓WE, WA, WL, aop, ofValue, ofCell, isConst, abin, acall1, abuiltin, aun, AV.cells, AV.one, Nat.reduceAdd, Int.reduceLT, Int.reduceLE, ↓WD, W0, evalOp, Nat.reduceEqDiff, Nat.reduceLT, ↓reduceIte, reduceCtorEq, hl, e0, e1, e5, e6]
    exact ⟨rfl, (by simp only [List.length_set, hl]), (by simp only [W0, Nat.reduceEqDiff, Nat.reduceLT, ↓reduceIte, hl, e0, e1, e5, e6]), (by simp only [W0, Nat.reduceEqDiff, Nat.reduceLT, ↓reduceIte, hl, e0, e1, e5, e6]), (by simp only [W0, Nat.reduceEqDiff, Nat.reduceLT, ↓reduceIte, hl, e0, e1, e5, e6]), (by simp only [W0, Nat.reduceEqDiff, Nat.reduceLT, ↓reduceIte, hl, e0, e1, e5, e6]), (by simp only [W0, Nat.reduceEqDiff, Nat.reduceLT, ↓reduceIte, hl, e0, e1, e5, e6])⟩) ?_
  rintro envg12 _ ⟨rfl, hl, e0, e1, e5, e6, e7⟩
  try simp only [↓WD, W0, evalOp, Nat.reduceEqDiff, Nat.reduceLT, ↓reduceIte, reduceCtorEq, hl, e0, e1, e5, e6, e7]
  have S43 : Sep h [] h4 [.row u6 24 1 (y2.map (cellI .u64)), .row (.val (.slice none 0 0)) 85 1 (([] : List Int).map (cellI .u32))] := S9.nilrow 85 1
  obtain ⟨r77, qr77, hF⟩ := obind hF
  refine AW_lift (L_ref04_roots_1 n_ y2 power) (fun s e h' => ∃ (u47 : AV), e.length = 25 ∧ e.getD 0 .undef = .int .i64 n_ ∧ e.getD 1 .undef = .int .i64 power ∧ e.getD 5 .undef = u6 ∧ e.getD 6 .undef = u47 ∧ e.getD 7 .undef = .int .i64 s.2 ∧ Sep h [] h' [.row u6 24 1 (y2.map (cellI .u64)), .row u47 85 1 (s.1.map (cellI .u32))]) (fun r77 x e h' => ∃ (u78 : AV), x = .exit 0 ∧ e.length = 25 ∧ e.getD 6 .undef = u78 ∧ Sep h [] h' [.row u78 85 1 (r77.map (cellI .u32))]) qr77 (by omega) ?_ ?_ ?_
  · rintro s envr77 h48 or77 ⟨u47, hl, e0, e1, e5, e6, e7, S49⟩ wr77
    rw [L_ref04_roots_1] at wr77
    try simp only [↓WD, W0, evalOp, Nat.reduceEqDiff, Nat.reduceLT, ↓reduceIte, reduceCtorEq, hl, e0, e1, e5, e6, e7]
    rw [AW_region]
    refine AE_joinR (fun e h' => h48 = h' ∧ e.length = 25 ∧ e.getD 0 .undef = .int .i64 n_ ∧ e.getD 1 .undef = .int .i64 power ∧ e.getD 5 .undef = u6 ∧ e.getD 6 .undef = u47 ∧ e.getD 7 .undef = .int .i64 s.2 ∧ e.getD 12 .undef = .bool (decide (s.2 < n_))) (by
      simp only [↓WE, WA, WL, aop, ofValue, ofCell, isConst, abin, acall1, abuiltin, aun, AV.cells, AV.one, Nat.reduceAdd, Int.reduceLT, Int.reduceLE, ↓WD, W0, evalOp, Nat.reduceEqDiff, Nat.reduceLT, ↓reduceIte, reduceCtorEq, hl, e0, e1, e5, e6, e7]
      exact ⟨rfl, (by simp only [List.length_set, hl]), (by simp only [W0, Nat.reduceEqDiff, Nat.reduceLT, ↓reduceIte, hl, e0, e1, e5, e6, e7]), (by simp only [W0, Nat.reduceEqDiff, Nat.reduceLT, ↓reduceIte, hl, e0, e1, e5, e6, e7]), (by simp only [W0, Nat.reduceEqDiff, Nat.reduceLT, ↓reduceIte, hl, e0, e1, e5, e6, e7]), (by simp only [W0, Nat.reduceEqDiff, Nat.reduceLT, ↓reduceIte, hl, e0, e1, e5, e6, e7]), (by simp only [W0, Nat.reduceEqDiff, Nat.reduceLT, ↓reduceIte, hl, e0, e1, e5, e6, e7]), (by simp only [W0, Nat.reduceEqDiff, Nat.reduceLT, ↓reduceIte, hl, e0, e1, e5, e6, e7])⟩) ?_
    rintro envg50 _ ⟨rfl, hl, e0, e1, e5, e6, e7, e12⟩
    try simp only [↓WD, W0, evalOp, Nat.reduceEqDiff, Nat.reduceLT, ↓reduceIte, reduceCtorEq, hl, e0, e1, e5, e6, e7, e12]
    refine CondK_dec (fun c52 => ?_) (fun c52 => ?_)
    · rw [if_pos c52] at wr77
      try simp only [↓WD, W0, evalOp, Nat.reduceEqDiff, Nat.reduceLT, ↓reduceIte, reduceCtorEq, hl, e0, e1, e5, e6, e7, e12]
      rw [AW_region]
      obtain ⟨x53, qx53, wr77⟩ := obind wr77
      obtain ⟨i54, off55, oi56, hp57⟩ := RO.addr (P := Try.prog) sl_141 (S49.row_ro (i := 0) rfl) qx53
      have ol58 := RO.ld (P := Try.prog) (S49.row_ro (i := 0) rfl) hp57 qx53 (t := 24) (o := 0) (v := .int .u64 x53) (by omega) (by simp only [apart, ag_24, sz_24]; rfl)
      simp only [Nat.add_zero] at ol58
      obtain ⟨y59, qy59, wr77⟩ := obind wr77
      have og60 := fun (D : Drawn) (n : Nat) (g : AH) => call_hook (P := Try.prog) (D := D) k98 n (args := [.int .u64 x53, .int .i64 power]) (v := .int .u32 y59) ((kf_98_eq x53 power).trans (by rw [qy59]; rfl)) g
      obtain ⟨u61, h62, ob63, S64⟩ := Sep.build (P := Try.prog) sl_82 S49 [.int .u32 y59] (([y59] : List Int).map (cellI .u32)) rfl (by simp [cellI]) (by simp)
      have ob63 : abuildSlice Try.prog 82 1 [(0, .int .u32 y59)] h48 = some (u61, h62) := ob63
      have S66 : Sep h [] h62 [.row u6 24 1 (y2.map (cellI .u64)), .row u47 85 1 (s.1.map (cellI .u32)), .row u61 85 1 (([y59] : List Int).map (cellI .u32))] := S64
      obtain ⟨zs67, qzs67, wr77⟩ := obind wr77
      obtain ⟨u68, h69, op70, S71⟩ := Sep.append (P := Try.prog) (t' := 82) sl_82 (by rw [Try.underlying82]; rfl) S66 1 rfl (S66.row_ro (i := 2) rfl) (fun _ => rfl) qzs67
      have S72 : Sep h [] h69 [.row u6 24 1 (y2.map (cellI .u64)), .row u68 85 1 (zs67.map (cellI .u32)), .row u61 85 1 (([y59] : List Int).map (cellI .u32))] := S71
      refine AE_joinR (fun e h' => h69 = h' ∧ e.length = 25 ∧ e.getD 0 .undef = .int .i64 n_ ∧ e.getD 1 .undef = .int .i64 power ∧ e.getD 5 .undef = u6 ∧ e.getD 6 .undef = u68 ∧ e.getD 7 .undef = .int .i64 s.2) (by
        simp only [↓WE, WA, WL, aop, ofValue, ofCell, isConst, abin, acall1, abuiltin, aun, AV.cells, AV.one, Nat.reduceAdd, Int.reduceLT, Int.reduceLE, ↓WD, W0, evalOp, Nat.reduceEqDiff, Nat.reduceLT, ↓reduceIte, reduceCtorEq, hl, e0, e1, e5, e6, e7, e12, oi56, ol58, og60, ob63, op70]
        exact ⟨rfl, (by simp only [List.length_set, hl]), (by simp only [W0, Nat.reduceEqDiff, Nat.reduceLT, ↓reduceIte, hl, e0, e1, e5, e6, e7, e12]), (by simp only [W0, Nat.reduceEqDiff, Nat.reduceLT, ↓reduceIte, hl, e0, e1, e5, e6, e7, e12]), (by simp only [W0, Nat.reduceEqDiff, Nat.reduceLT, ↓reduceIte, hl, e0, e1, e5, e6, e7, e12]), (by simp only [W0, Nat.reduceEqDiff, Nat.reduceLT, ↓reduceIte, hl, e0, e1, e5, e6, e7, e12]), (by simp only [W0, Nat.reduceEqDiff, Nat.reduceLT, ↓reduceIte, hl, e0, e1, e5, e6, e7, e12])⟩) ?_
      rintro envg73 _ ⟨rfl, hl, e0, e1, e5, e6, e7⟩
      try simp only [↓WD, W0, evalOp, Nat.reduceEqDiff, Nat.reduceLT, ↓reduceIte, reduceCtorEq, hl, e0, e1, e5, e6, e7]
      rw [AW_region]
      refine AE_joinR (fun e h' => h69 = h' ∧ e.length = 25 ∧ e.getD 0 .undef = .int .i64 n_ ∧ e.getD 1 .undef = .int .i64 power ∧ e.getD 5 .undef = u6 ∧ e.getD 6 .undef = u68 ∧ e.getD 7 .undef = .int .i64 (IntKind.i64.wrap (s.2 + 1))) (by
        simp only [↓WE, WA, WL, aop, ofValue, ofCell, isConst, abin, acall1, abuiltin, aun, AV.cells, AV.one, Nat.reduceAdd, Int.reduceLT, Int.reduceLE, ↓WD, W0, evalOp, Nat.reduceEqDiff, Nat.reduceLT, ↓reduceIte, reduceCtorEq, hl, e0, e1, e5, e6, e7]
        exact ⟨rfl, (by simp only [List.length_set, hl]), (by simp only [W0, Nat.reduceEqDiff, Nat.reduceLT, ↓reduceIte, hl, e0, e1, e5, e6, e7]), (by simp only [W0, Nat.reduceEqDiff, Nat.reduceLT, ↓reduceIte, hl, e0, e1, e5, e6, e7]), (by simp only [W0, Nat.reduceEqDiff, Nat.reduceLT, ↓reduceIte, hl, e0, e1, e5, e6, e7]), (by simp only [W0, Nat.reduceEqDiff, Nat.reduceLT, ↓reduceIte, hl, e0, e1, e5, e6, e7]), (by simp only [W0, Nat.reduceEqDiff, Nat.reduceLT, ↓reduceIte, hl, e0, e1, e5, e6, e7])⟩) ?_
      rintro envg74 _ ⟨rfl, hl, e0, e1, e5, e6, e7⟩
      try simp only [↓WD, W0, evalOp, Nat.reduceEqDiff, Nat.reduceLT, ↓reduceIte, reduceCtorEq, hl, e0, e1, e5, e6, e7]
      obtain rfl := Option.some.inj wr77
      rw [KP_nil, QL_normal]
      exact ⟨_, rfl, u68, (by simp only [List.length_set, hl]), (by simp only [W0, Nat.reduceEqDiff, Nat.reduceLT, ↓reduceIte, hl, e0, e1, e5, e6, e7]), (by simp only [W0, Nat.reduceEqDiff, Nat.reduceLT, ↓reduceIte, hl, e0, e1, e5, e6, e7]), (by simp only [W0, Nat.reduceEqDiff, Nat.reduceLT, ↓reduceIte, hl, e0, e1, e5, e6, e7]), (by simp only [W0, Nat.reduceEqDiff, Nat.reduceLT, ↓reduceIte, hl, e0, e1, e5, e6, e7]), (by simp only [W0, Nat.reduceEqDiff, Nat.reduceLT, ↓reduceIte, hl, e0, e1, e5, e6, e7]), S72.pick [0, 1] (by decide) rfl⟩
    · rw [if_neg c52] at wr77
      try simp only [↓WD, W0, evalOp, Nat.reduceEqDiff, Nat.reduceLT, ↓reduceIte, reduceCtorEq, hl, e0, e1, e5, e6, e7, e12]
      obtain rfl := Option.some.inj wr77
      rw [KP_nil, QL_exit]
      exact ⟨_, rfl, u47, rfl, (by simp only [List.length_set, hl]), (by simp only [W0, Nat.reduceEqDiff, Nat.reduceLT, ↓reduceIte, hl, e0, e1, e5, e6, e7, e12]), S49.pick [1] (by decide) rfl⟩
  · exact ⟨.val (.slice none 0 0), (by simp only [List.length_set, hl]), (by simp only [W0, Nat.reduceEqDiff, Nat.reduceLT, ↓reduceIte, hl, e0, e1, e5, e6, e7]), (by simp only [W0, Nat.reduceEqDiff, Nat.reduceLT, ↓reduceIte, hl, e0, e1, e5, e6, e7]), (by simp only [W0, Nat.reduceEqDiff, Nat.reduceLT, ↓reduceIte, hl, e0, e1, e5, e6, e7]), (by simp only [W0, Nat.reduceEqDiff, Nat.reduceLT, ↓reduceIte, hl, e0, e1, e5, e6, e7]), (by simp only [W0, Nat.reduceEqDiff, Nat.reduceLT, ↓reduceIte, hl, e0, e1, e5, e6, e7]), S43⟩
  · rintro x envr77 h79 ⟨u78, rfl, hl, e6, S80⟩
    try simp only [↓WD, W0, evalOp, Nat.reduceEqDiff, Nat.reduceLT, ↓reduceIte, reduceCtorEq, hl, e6]
    rw [AW_region]
    refine AE_joinR (fun e h' => h79 = h' ∧ e.length = 25 ∧ e.getD 4 .undef = u78) (by
      simp only [↓WE, WA, WL, aop, ofValue, ofCell, isConst, abin, acall1, abuiltin, aun, AV.cells, AV.one, Nat.reduceAdd, Int.reduceLT, Int.reduceLE, ↓WD, W0, evalOp, Nat.reduceEqDiff, Nat.reduceLT, ↓reduceIte, reduceCtorEq, hl, e6]
      exact ⟨rfl, (by simp only [List.length_set, hl]), (by simp only [W0, Nat.reduceEqDiff, Nat.reduceLT, ↓reduceIte, hl, e6])⟩) ?_
    rintro envg81 _ ⟨rfl, hl, e4⟩
    try simp only [↓WD, W0, evalOp, Nat.reduceEqDiff, Nat.reduceLT, ↓reduceIte, reduceCtorEq, hl, e4]
    refine KP_ret (vs := [u78]) (by simp only [aresults, aresult, gs, List.length_set, Nat.reduceEqDiff, Nat.reduceLT, ↓reduceIte, hl, e4]) ?_
    obtain rfl := Option.some.inj hF
    exact ⟨u78, rfl, S80⟩
set_option maxRecDepth 100000 in
set_option maxHeartbeats 4000000 in
theorem W_ref04_padded {K : PureK} (n59 : K 59 = none) (m : Nat) (hm : NF + 1 ≤ m) (h : AH) (s_ : List UInt8) {r : (List UInt8)} (hF : F_ref04_padded s_ = some r) :
    AR (acall Try.prog (hooksOf K) (drawnOf Try.prog (tabOf K)) m 59 [.str s_] h) (fun v h' => v = .str r) := by
  obtain ⟨m, rfl⟩ : ∃ k, m = k + 1 := ⟨m - 1, by omega⟩
  refine AR_call (hooksOf_none n59) Try.func59 rfl _ _ fun env hl he => ?_
  have e0 := he 0
  simp only [List.getD_cons_zero, List.getD_cons_succ] at e0
  simp only [Try.f59] at hl ⊢
  simp only [List.length_cons, List.length_nil, Nat.reduceAdd, Nat.reduceSub] at hl
  clear he
  have S0 : Sep h [] h [] := Sep.nil h
  rw [F_ref04_padded] at hF
  try simp only [↓WD, W0, evalOp, Nat.reduceEqDiff, Nat.reduceLT, ↓reduceIte, reduceCtorEq, hl, e0]
  rw [AW_region]
  refine AE_joinR (fun e h' => h = h' ∧ e.length = 35 ∧ e.getD 0 .undef = .str s_) (by
    simp only [↓WE, WA, WL, aop, ofValue, ofCell, isConst, abin, acall1, abuiltin, aun, AV.cells, AV.one, Nat.reduceAdd, Int.reduceLT, Int.reduceLE, ↓WD, W0, evalOp, Nat.reduceEqDiff, Nat.reduceLT, ↓reduceIte, reduceCtorEq, hl, e0]
    exact ⟨rfl, (by simp only [List.length_set, hl]), (by simp only [W0, Nat.reduceEqDiff, Nat.reduceLT, ↓reduceIte, hl, e0])⟩) ?_
  rintro envg1 _ ⟨rfl, hl, e0⟩
  try simp only [↓WD, W0, evalOp, Nat.reduceEqDiff, Nat.reduceLT, ↓reduceIte, reduceCtorEq, hl, e0]
  rw [AW_region]
  have ol2 := fun g : AH => alen_str (P := Try.prog) (h := g) (l := s_) Try.underlying9
  have oc3 := fun g : AH => aconv_int (P := Try.prog) (h := g) (n := (s_.length : Int)) (k' := .i64) Try.underlying3 Try.underlying24
  refine AE_joinR (fun e h' => h = h' ∧ e.length = 35 ∧ e.getD 0 .undef = .str s_ ∧ e.getD 3 .undef = .int .u64 (IntKind.u64.wrap ((IntKind.u64.wrap (s_.length : Int)) * 8))) (by
    simp only [↓WE, WA, WL, aop, ofValue, ofCell, isConst, abin, acall1, abuiltin, aun, AV.cells, AV.one, Nat.reduceAdd, Int.reduceLT, Int.reduceLE, ↓WD, W0, evalOp, Nat.reduceEqDiff, Nat.reduceLT, ↓reduceIte, reduceCtorEq, hl, e0, ol2, oc3]
    exact ⟨rfl, (by simp only [List.length_set, hl]), (by simp only [W0, Nat.reduceEqDiff, Nat.reduceLT, ↓reduceIte, hl, e0]), (by simp only [W0, Nat.reduceEqDiff, Nat.reduceLT, ↓reduceIte, hl, e0])⟩) ?_
  rintro envg4 _ ⟨rfl, hl, e0, e3⟩
  try simp only [↓WD, W0, evalOp, Nat.reduceEqDiff, Nat.reduceLT, ↓reduceIte, reduceCtorEq, hl, e0, e3]
  rw [AW_region]
  obtain ⟨s5, qs5, hF⟩ := obind hF
  have os5 := cat_str qs5
  refine AE_joinR (fun e h' => h = h' ∧ e.length = 35 ∧ e.getD 0 .undef = .str s5 ∧ e.getD 3 .undef = .int .u64 (IntKind.u64.wrap ((IntKind.u64.wrap (s_.length : Int)) * 8))) (by
    simp only [↓WE, WA, WL, aop, ofValue, ofCell, isConst, abin, acall1, abuiltin, aun, AV.cells, AV.one, Nat.reduceAdd, Int.reduceLT, Int.reduceLE, ↓WD, W0, evalOp, Nat.reduceEqDiff, Nat.reduceLT, ↓reduceIte, reduceCtorEq, hl, e0, e3, os5]
    exact ⟨rfl, (by simp only [List.length_set, hl]), (by simp only [W0, Nat.reduceEqDiff, Nat.reduceLT, ↓reduceIte, hl, e0, e3]), (by simp only [W0, Nat.reduceEqDiff, Nat.reduceLT, ↓reduceIte, hl, e0, e3])⟩) ?_
  rintro envg6 _ ⟨rfl, hl, e0, e3⟩
  try simp only [↓WD, W0, evalOp, Nat.reduceEqDiff, Nat.reduceLT, ↓reduceIte, reduceCtorEq, hl, e0, e3]
  obtain ⟨r25, qr25, hF⟩ := obind hF
  refine AW_lift (L_ref04_padded_1) (fun s e h' => e.length = 35 ∧ e.getD 0 .undef = .str s ∧ e.getD 3 .undef = .int .u64 (IntKind.u64.wrap ((IntKind.u64.wrap (s_.length : Int)) * 8)) ∧ Sep h [] h' []) (fun r25 x e h' => x = .exit 0 ∧ e.length = 35 ∧ e.getD 0 .undef = .str r25 ∧ e.getD 3 .undef = .int .u64 (IntKind.u64.wrap ((IntKind.u64.wrap (s_.length : Int)) * 8)) ∧ Sep h [] h' []) qr25 (by omega) ?_ ?_ ?_
  · rintro s envr25 h16 or25 ⟨hl, e0, e3, S17⟩ wr25
    rw [L_ref04_padded_1] at wr25
    try simp only [↓WD, W0, evalOp, Nat.reduceEqDiff, Nat.reduceLT, ↓reduceIte, reduceCtorEq, hl, e0, e3]
    rw [AW_region]
    have ol18 := fun g : AH => alen_str (P := Try.prog) (h := g) (l := s) Try.underlying9
    obtain ⟨y19, qy19, wr25⟩ := obind wr25
    have oy19 := rem_int (k := .i64) qy19
    refine AE_joinR (fun e h' => h16 = h' ∧ e.length = 35 ∧ e.getD 0 .undef = .str s ∧ e.getD 3 .undef = .int .u64 (IntKind.u64.wrap ((IntKind.u64.wrap (s_.length : Int)) * 8)) ∧ e.getD 15 .undef = .bool (y19 != 56)) (by
      simp only [↓WE, WA, WL, aop, ofValue, ofCell, isConst, abin, acall1, abuiltin, aun, AV.cells, AV.one, Nat.reduceAdd, Int.reduceLT, Int.reduceLE, ↓WD, W0, evalOp, Nat.reduceEqDiff, Nat.reduceLT, ↓reduceIte, reduceCtorEq, hl, e0, e3, ol18, oy19]
      exact ⟨rfl, (by simp only [List.length_set, hl]), (by simp only [W0, Nat.reduceEqDiff, Nat.reduceLT, ↓reduceIte, hl, e0, e3]), (by simp only [W0, Nat.reduceEqDiff, Nat.reduceLT, ↓reduceIte, hl, e0, e3]), (by simp only [W0, Nat.reduceEqDiff, Nat.reduceLT, ↓reduceIte, hl, e0, e3])⟩) ?_
    rintro envg20 _ ⟨rfl, hl, e0, e3, e15⟩
    try simp only [↓WD, W0, evalOp, Nat.reduceEqDiff, Nat.reduceLT, ↓reduceIte, reduceCtorEq, hl, e0, e3, e15]
    refine CondK_boo (fun c22 => ?_) (fun c22 => ?_)
    · rw [if_pos c22] at wr25
      try simp only [↓WD, W0, evalOp, Nat.reduceEqDiff, Nat.reduceLT, ↓reduceIte, reduceCtorEq, hl, e0, e3, e15]
      rw [AW_region]
      obtain ⟨s23, qs23, wr25⟩ := obind wr25
      have os23 := cat_str qs23
      refine AE_joinR (fun e h' => h16 = h' ∧ e.length = 35 ∧ e.getD 0 .undef = .str s23 ∧ e.getD 3 .undef = .int .u64 (IntKind.u64.wrap ((IntKind.u64.wrap (s_.length : Int)) * 8))) (by
        simp only [↓WE, WA, WL, aop, ofValue, ofCell, isConst, abin, acall1, abuiltin, aun, AV.cells, AV.one, Nat.reduceAdd, Int.reduceLT, Int.reduceLE, ↓WD, W0, evalOp, Nat.reduceEqDiff, Nat.reduceLT, ↓reduceIte, reduceCtorEq, hl, e0, e3, e15, os23]
        exact ⟨rfl, (by simp only [List.length_set, hl]), (by simp only [W0, Nat.reduceEqDiff, Nat.reduceLT, ↓reduceIte, hl, e0, e3, e15]), (by simp only [W0, Nat.reduceEqDiff, Nat.reduceLT, ↓reduceIte, hl, e0, e3, e15])⟩) ?_
      rintro envg24 _ ⟨rfl, hl, e0, e3⟩
      try simp only [↓WD, W0, evalOp, Nat.reduceEqDiff, Nat.reduceLT, ↓reduceIte, reduceCtorEq, hl, e0, e3]
      obtain rfl := Option.some.inj wr25
      rw [KP_nil, QL_normal]
      exact ⟨_, rfl, (by simp only [List.length_set, hl]), (by simp only [W0, Nat.reduceEqDiff, Nat.reduceLT, ↓reduceIte, hl, e0, e3]), (by simp only [W0, Nat.reduceEqDiff, Nat.reduceLT, ↓reduceIte, hl, e0, e3]), S17⟩
    · rw [if_neg (nf c22)] at wr25
      try simp only [↓WD, W0, evalOp, Nat.reduceEqDiff, Nat.reduceLT, ↓reduceIte, reduceCtorEq, hl, e0, e3, e15]
      obtain rfl := Option.some.inj wr25
      rw [KP_nil, QL_exit]
      exact ⟨_, rfl, rfl, (by simp only [List.length_set, hl]), (by simp only [W0, Nat.reduceEqDiff, Nat.reduceLT, ↓reduceIte, hl, e0, e3, e15]), (by simp only [W0, Nat.reduceEqDiff, Nat.reduceLT, ↓reduceIte, hl, e0, e3, e15]), S17⟩
  · exact ⟨(by simp only [List.length_set, hl]), (by simp only [W0, Nat.reduceEqDiff, Nat.reduceLT, ↓reduceIte, hl, e0, e3]), (by simp only [W0, Nat.reduceEqDiff, Nat.reduceLT, ↓reduceIte, hl, e0, e3]), S0⟩
  · rintro x envr25 h26 ⟨rfl, hl, e0, e3, S27⟩
    try simp only [↓WD, W0, evalOp, Nat.reduceEqDiff, Nat.reduceLT, ↓reduceIte, reduceCtorEq, hl, e0, e3]
    rw [AW_region]
    obtain ⟨zs28, qzs28, hF⟩ := obind hF
    obtain ⟨u29, h30, om31, S32⟩ := Sep.make (P := Try.prog) sl_28 (f := (cellI .u8)) (by rw [zero_5]; rfl) S27 qzs28 .i64 .i64
    have S34 : Sep h [] h30 [.row u29 5 1 (zs28.map (cellI .u8))] := S32
    refine AE_joinR (fun e h' => h30 = h' ∧ e.length = 35 ∧ e.getD 0 .undef = .str r25 ∧ e.getD 3 .undef = .int .u64 (IntKind.u64.wrap ((IntKind.u64.wrap (s_.length : Int)) * 8)) ∧ e.getD 4 .undef = u29) (by
      simp only [↓WE, WA, WL, aop, ofValue, ofCell, isConst, abin, acall1, abuiltin, aun, AV.cells, AV.one, Nat.reduceAdd, Int.reduceLT, Int.reduceLE, ↓WD, W0, evalOp, Nat.reduceEqDiff, Nat.reduceLT, ↓reduceIte, reduceCtorEq, hl, e0, e3, om31]
      exact ⟨rfl, (by simp only [List.length_set, hl]), (by simp only [W0, Nat.reduceEqDiff, Nat.reduceLT, ↓reduceIte, hl, e0, e3]), (by simp only [W0, Nat.reduceEqDiff, Nat.reduceLT, ↓reduceIte, hl, e0, e3]), (by simp only [W0, Nat.reduceEqDiff, Nat.reduceLT, ↓reduceIte, hl, e0, e3])⟩) ?_
    rintro envg35 _ ⟨rfl, hl, e0, e3, e4⟩
    try simp only [↓WD, W0, evalOp, Nat.reduceEqDiff, Nat.reduceLT, ↓reduceIte, reduceCtorEq, hl, e0, e3, e4]
    rw [AW_region]
    refine AE_joinR (fun e h' => h30 = h' ∧ e.length = 35 ∧ e.getD 0 .undef = .str r25 ∧ e.getD 3 .undef = .int .u64 (IntKind.u64.wrap ((IntKind.u64.wrap (s_.length : Int)) * 8)) ∧ e.getD 4 .undef = u29 ∧ e.getD 5 .undef = .int .i64 7) (by
      simp only [↓WE, WA, WL, aop, ofValue, ofCell, isConst, abin, acall1, abuiltin, aun, AV.cells, AV.one, Nat.reduceAdd, Int.reduceLT, Int.reduceLE, ↓WD, W0, evalOp, Nat.reduceEqDiff, Nat.reduceLT, ↓reduceIte, reduceCtorEq, hl, e0, e3, e4]
      exact ⟨rfl, (by simp only [List.length_set, hl]), (by simp only [W0, Nat.reduceEqDiff, Nat.reduceLT, ↓reduceIte, hl, e0, e3, e4]), (by simp only [W0, Nat.reduceEqDiff, Nat.reduceLT, ↓reduceIte, hl, e0, e3, e4]), (by simp only [W0, Nat.reduceEqDiff, Nat.reduceLT, ↓reduceIte, hl, e0, e3, e4]), (by simp only [W0, Nat.reduceEqDiff, Nat.reduceLT, ↓reduceIte, hl, e0, e3, e4])⟩) ?_
    rintro envg36 _ ⟨rfl, hl, e0, e3, e4, e5⟩
    try simp only [↓WD, W0, evalOp, Nat.reduceEqDiff, Nat.reduceLT, ↓reduceIte, reduceCtorEq, hl, e0, e3, e4, e5]
    obtain ⟨r79, qr79, hF⟩ := obind hF
    refine AW_lift (L_ref04_padded_2) (fun s e h' => e.length = 35 ∧ e.getD 0 .undef = .str r25 ∧ e.getD 3 .undef = .int .u64 s.1 ∧ e.getD 4 .undef = u29 ∧ e.getD 5 .undef = .int .i64 s.2.2 ∧ Sep h [] h' [.row u29 5 1 (s.2.1.map (cellI .u8))]) (fun r79 x e h' => x = .exit 2 ∧ e.length = 35 ∧ e.getD 0 .undef = .str r25 ∧ e.getD 4 .undef = u29 ∧ Sep h [] h' [.row u29 5 1 (r79.map (cellI .u8))]) qr79 (by omega) ?_ ?_ ?_
    · rintro s envr79 h58 or79 ⟨hl, e0, e3, e4, e5, S59⟩ wr79
      rw [L_ref04_padded_2] at wr79
      try simp only [↓WD, W0, evalOp, Nat.reduceEqDiff, Nat.reduceLT, ↓reduceIte, reduceCtorEq, hl, e0, e3, e4, e5]
      rw [AW_region]
      refine AE_joinR (fun e h' => h58 = h' ∧ e.length = 35 ∧ e.getD 0 .undef = .str r25 ∧ e.getD 3 .undef = .int .u64 s.1 ∧ e.getD 4 .undef = u29 ∧ e.getD 5 .undef = .int .i64 s.2.2 ∧ e.getD 20 .undef = .bool (decide (s.2.2 ≥ 0))) (by
        simp only [↓WE, WA, WL, aop, ofValue, ofCell, isConst, abin, acall1, abuiltin, aun, AV.cells, AV.one, Nat.reduceAdd, Int.reduceLT, Int.reduceLE, ↓WD, W0, evalOp, Nat.reduceEqDiff, Nat.reduceLT, ↓reduceIte, reduceCtorEq, hl, e0, e3, e4, e5]
        exact ⟨rfl, (by simp only [List.length_set, hl]), (by simp only [W0, Nat.reduceEqDiff, Nat.reduceLT, ↓reduceIte, hl, e0, e3, e4, e5]), (by simp only [W0, Nat.reduceEqDiff, Nat.reduceLT, ↓reduceIte, hl, e0, e3, e4, e5]), (by simp only [W0, Nat.reduceEqDiff, Nat.reduceLT, ↓reduceIte, hl, e0, e3, e4, e5]), (by simp only [W0, Nat.reduceEqDiff, Nat.reduceLT, ↓reduceIte, hl, e0, e3, e4, e5]), (by simp only [W0, Nat.reduceEqDiff, Nat.reduceLT, ↓reduceIte, hl, e0, e3, e4, e5])⟩) ?_
      rintro envg60 _ ⟨rfl, hl, e0, e3, e4, e5, e20⟩
      try simp only [↓WD, W0, evalOp, Nat.reduceEqDiff, Nat.reduceLT, ↓reduceIte, reduceCtorEq, hl, e0, e3, e4, e5, e20]
      refine CondK_dec (fun c62 => ?_) (fun c62 => ?_)
      · rw [if_pos c62] at wr79
        try simp only [↓WD, W0, evalOp, Nat.reduceEqDiff, Nat.reduceLT, ↓reduceIte, reduceCtorEq, hl, e0, e3, e4, e5, e20]
        rw [AW_region]
        obtain ⟨y63, qy63, wr79⟩ := obind wr79
        have oy63 := rem_int (k := .u64) qy63
        have oc64 := fun g : AH => aconv_int (P := Try.prog) (h := g) (n := y63) (k' := .u64) Try.underlying24 Try.underlying5
        obtain ⟨x65, qx65, wr79⟩ := obind wr79
        obtain ⟨i66, off67, oi68, hp69⟩ := RO.addr (P := Try.prog) sl_28 (S59.row_ro (i := 0) rfl) qx65
        obtain ⟨y73, qy73, wr79⟩ := obind wr79
        obtain ⟨h70, os71, S72⟩ := S59.rstore (P := Try.prog) 0 rfl hp69 (x := x65) (z := IntKind.u8.wrap y63) (by first | exact qx65 | (simp only [idxL] at *; assumption)) (t := 5) (o := 0) (v := .int .u8 (IntKind.u8.wrap y63)) rfl sz_5 rfl (by simp) rfl qy73
        simp only [Nat.add_zero] at os71
        have S74 : Sep h [] h70 [.row u29 5 1 (y73.map (cellI .u8))] := S72
        refine AE_joinR (fun e h' => h70 = h' ∧ e.length = 35 ∧ e.getD 0 .undef = .str r25 ∧ e.getD 3 .undef = .int .u64 s.1 ∧ e.getD 4 .undef = u29 ∧ e.getD 5 .undef = .int .i64 s.2.2) (by
          simp only [↓WE, WA, WL, aop, ofValue, ofCell, isConst, abin, acall1, abuiltin, aun, AV.cells, AV.one, Nat.reduceAdd, Int.reduceLT, Int.reduceLE, ↓WD, W0, evalOp, Nat.reduceEqDiff, Nat.reduceLT, ↓reduceIte, reduceCtorEq, hl, e0, e3, e4, e5, e20, oy63, oc64, oi68, os71]
          exact ⟨rfl, (by simp only [List.length_set, hl]), (by simp only [W0, Nat.reduceEqDiff, Nat.reduceLT, ↓reduceIte, hl, e0, e3, e4, e5, e20]), (by simp only [W0, Nat.reduceEqDiff, Nat.reduceLT, ↓reduceIte, hl, e0, e3, e4, e5, e20]), (by simp only [W0, Nat.reduceEqDiff, Nat.reduceLT, ↓reduceIte, hl, e0, e3, e4, e5, e20]), (by simp only [W0, Nat.reduceEqDiff, Nat.reduceLT, ↓reduceIte, hl, e0, e3, e4, e5, e20])⟩) ?_
        rintro envg75 _ ⟨rfl, hl, e0, e3, e4, e5⟩
        try simp only [↓WD, W0, evalOp, Nat.reduceEqDiff, Nat.reduceLT, ↓reduceIte, reduceCtorEq, hl, e0, e3, e4, e5]
        rw [AW_region]
        obtain ⟨y76, qy76, wr79⟩ := obind wr79
        have oy76 := quo_int (k := .u64) qy76
        refine AE_joinR (fun e h' => h70 = h' ∧ e.length = 35 ∧ e.getD 0 .undef = .str r25 ∧ e.getD 3 .undef = .int .u64 y76 ∧ e.getD 4 .undef = u29 ∧ e.getD 5 .undef = .int .i64 s.2.2) (by
          simp only [↓WE, WA, WL, aop, ofValue, ofCell, isConst, abin, acall1, abuiltin, aun, AV.cells, AV.one, Nat.reduceAdd, Int.reduceLT, Int.reduceLE, ↓WD, W0, evalOp, Nat.reduceEqDiff, Nat.reduceLT, ↓reduceIte, reduceCtorEq, hl, e0, e3, e4, e5, oy76]
          exact ⟨rfl, (by simp only [List.length_set, hl]), (by simp only [W0, Nat.reduceEqDiff, Nat.reduceLT, ↓reduceIte, hl, e0, e3, e4, e5]), (by simp only [W0, Nat.reduceEqDiff, Nat.reduceLT, ↓reduceIte, hl, e0, e3, e4, e5]), (by simp only [W0, Nat.reduceEqDiff, Nat.reduceLT, ↓reduceIte, hl, e0, e3, e4, e5]), (by simp only [W0, Nat.reduceEqDiff, Nat.reduceLT, ↓reduceIte, hl, e0, e3, e4, e5])⟩) ?_
        rintro envg77 _ ⟨rfl, hl, e0, e3, e4, e5⟩
        try simp only [↓WD, W0, evalOp, Nat.reduceEqDiff, Nat.reduceLT, ↓reduceIte, reduceCtorEq, hl, e0, e3, e4, e5]
        rw [AW_region]
        refine AE_joinR (fun e h' => h70 = h' ∧ e.length = 35 ∧ e.getD 0 .undef = .str r25 ∧ e.getD 3 .undef = .int .u64 y76 ∧ e.getD 4 .undef = u29 ∧ e.getD 5 .undef = .int .i64 (IntKind.i64.wrap (s.2.2 - 1))) (by
          simp only [↓WE, WA, WL, aop, ofValue, ofCell, isConst, abin, acall1, abuiltin, aun, AV.cells, AV.one, Nat.reduceAdd, Int.reduceLT, Int.reduceLE, ↓WD, W0, evalOp, Nat.reduceEqDiff, Nat.reduceLT, ↓reduceIte, reduceCtorEq, hl, e0, e3, e4, e5]
          exact ⟨rfl, (by simp only [List.length_set, hl]), (by simp only [W0, Nat.reduceEqDiff, Nat.reduceLT, ↓reduceIte, hl, e0, e3, e4, e5]), (by simp only [W0, Nat.reduceEqDiff, Nat.reduceLT, ↓reduceIte, hl, e0, e3, e4, e5]), (by simp only [W0, Nat.reduceEqDiff, Nat.reduceLT, ↓reduceIte, hl, e0, e3, e4, e5]), (by simp only [W0, Nat.reduceEqDiff, Nat.reduceLT, ↓reduceIte, hl, e0, e3, e4, e5])⟩) ?_
        rintro envg78 _ ⟨rfl, hl, e0, e3, e4, e5⟩
        try simp only [↓WD, W0, evalOp, Nat.reduceEqDiff, Nat.reduceLT, ↓reduceIte, reduceCtorEq, hl, e0, e3, e4, e5]
        obtain rfl := Option.some.inj wr79
        rw [KP_nil, QL_normal]
        exact ⟨_, rfl, (by simp only [List.length_set, hl]), (by simp only [W0, Nat.reduceEqDiff, Nat.reduceLT, ↓reduceIte, hl, e0, e3, e4, e5]), (by simp only [W0, Nat.reduceEqDiff, Nat.reduceLT, ↓reduceIte, hl, e0, e3, e4, e5]), (by simp only [W0, Nat.reduceEqDiff, Nat.reduceLT, ↓reduceIte, hl, e0, e3, e4, e5]), (by simp only [W0, Nat.reduceEqDiff, Nat.reduceLT, ↓reduceIte, hl, e0, e3, e4, e5]), S74⟩
      · rw [if_neg c62] at wr79
        try simp only [↓WD, W0, evalOp, Nat.reduceEqDiff, Nat.reduceLT, ↓reduceIte, reduceCtorEq, hl, e0, e3, e4, e5, e20]
        obtain rfl := Option.some.inj wr79
        rw [KP_nil, QL_exit]
        exact ⟨_, rfl, rfl, (by simp only [List.length_set, hl]), (by simp only [W0, Nat.reduceEqDiff, Nat.reduceLT, ↓reduceIte, hl, e0, e3, e4, e5, e20]), (by simp only [W0, Nat.reduceEqDiff, Nat.reduceLT, ↓reduceIte, hl, e0, e3, e4, e5, e20]), S59⟩
    · exact ⟨(by simp only [List.length_set, hl]), (by simp only [W0, Nat.reduceEqDiff, Nat.reduceLT, ↓reduceIte, hl, e0, e3, e4, e5]), (by simp only [W0, Nat.reduceEqDiff, Nat.reduceLT, ↓reduceIte, hl, e0, e3, e4, e5]), (by simp only [W0, Nat.reduceEqDiff, Nat.reduceLT, ↓reduceIte, hl, e0, e3, e4, e5]), (by simp only [W0, Nat.reduceEqDiff, Nat.reduceLT, ↓reduceIte, hl, e0, e3, e4, e5]), S34⟩
    · rintro x envr79 h80 ⟨rfl, hl, e0, e4, S81⟩
      try simp only [↓WD, W0, evalOp, Nat.reduceEqDiff, Nat.reduceLT, ↓reduceIte, reduceCtorEq, hl, e0, e4]
      rw [AW_region]
      have oc82 := RO.str (P := Try.prog) Try.underlying28 Try.underlying5 Try.underlying9 (S81.row_ro (i := 0) rfl)
      obtain ⟨s83, qs83, hF⟩ := obind hF
      have os83 := cat_str qs83
      refine AE_joinR (fun e h' => h80 = h' ∧ e.length = 35 ∧ e.getD 2 .undef = .str s83) (by
        simp only [↓WE, WA, WL, aop, ofValue, ofCell, isConst, abin, acall1, abuiltin, aun, AV.cells, AV.one, Nat.reduceAdd, Int.reduceLT, Int.reduceLE, ↓WD, W0, evalOp, Nat.reduceEqDiff, Nat.reduceLT, ↓reduceIte, reduceCtorEq, hl, e0, e4, oc82, os83]
        exact ⟨rfl, (by simp only [List.length_set, hl]), (by simp only [W0, Nat.reduceEqDiff, Nat.reduceLT, ↓reduceIte, hl, e0, e4])⟩) ?_
      rintro envg84 _ ⟨rfl, hl, e2⟩
      try simp only [↓WD, W0, evalOp, Nat.reduceEqDiff, Nat.reduceLT, ↓reduceIte, reduceCtorEq, hl, e2]
      refine KP_ret (vs := [.str s83]) (by simp only [aresults, aresult, gs, List.length_set, Nat.reduceEqDiff, Nat.reduceLT, ↓reduceIte, hl, e2]) ?_
      obtain rfl := Option.some.inj hF
      exact rfl
set_option maxRecDepth 100000 in
set_option maxHeartbeats 4000000 in
theorem W_ref04_right {K : PureK} (n61 : K 61 = none) (m : Nat) (hm : NF + 1 ≤ m) (h : AH) (a : Int) (n_ : Int) {r : Int} (hF : F_ref04_right a n_ = some r) :
    AR (acall Try.prog (hooksOf K) (drawnOf Try.prog (tabOf K)) m 61 [.int .u32 a, .int .i64 n_] h) (fun v h' => v = .int .u32 r) := by
  obtain ⟨m, rfl⟩ : ∃ k, m = k + 1 := ⟨m - 1, by omega⟩
  refine AR_call (hooksOf_none n61) Try.func61 rfl _ _ fun env hl he => ?_
  have e0 := he 0
  have e1 := he 1
  simp only [List.getD_cons_zero, List.getD_cons_succ] at e0 e1
  simp only [Try.f61] at hl ⊢
  simp only [List.length_cons, List.length_nil, Nat.reduceAdd, Nat.reduceSub] at hl
  clear he
  have S0 : Sep h [] h [] := Sep.nil h
  rw [F_ref04_right] at hF
  try simp only [↓WD, W0, evalOp, Nat.reduceEqDiff, Nat.reduceLT, ↓reduceIte, reduceCtorEq, hl, e0, e1]
  rw [AW_region]
  refine AE_joinR (fun e h' => h = h' ∧ e.length = 13 ∧ e.getD 0 .undef = .int .u32 a ∧ e.getD 1 .undef = .int .i64 n_) (by
    simp only [↓WE, WA, WL, aop, ofValue, ofCell, isConst, abin, acall1, abuiltin, aun, AV.cells, AV.one, Nat.reduceAdd, Int.reduceLT, Int.reduceLE, ↓WD, W0, evalOp, Nat.reduceEqDiff, Nat.reduceLT, ↓reduceIte, reduceCtorEq, hl, e0, e1]
    exact ⟨rfl, (by simp only [List.length_set, hl]), (by simp only [W0, Nat.reduceEqDiff, Nat.reduceLT, ↓reduceIte, hl, e0, e1]), (by simp only [W0, Nat.reduceEqDiff, Nat.reduceLT, ↓reduceIte, hl, e0, e1])⟩) ?_
  rintro envg1 _ ⟨rfl, hl, e0, e1⟩
  try simp only [↓WD, W0, evalOp, Nat.reduceEqDiff, Nat.reduceLT, ↓reduceIte, reduceCtorEq, hl, e0, e1]
  rw [AW_drawn, AE_drawnK Ksub.nil (by kernel_rfl)]
  obtain ⟨y2, qy2, hF⟩ := obind hF
  have oy2 := shr_int (k := .u32) qy2
  obtain ⟨y3, qy3, hF⟩ := obind hF
  have oy3 := shl_int (k := .u32) qy3
  refine AE_joinR (fun e h' => h = h' ∧ e.length = 13 ∧ e.getD 4 .undef = .int .u32 (orI .u32 y2 y3)) (by
    simp only [↓WE, WA, WL, aop, ofValue, ofCell, isConst, abin, acall1, abuiltin, aun, AV.cells, AV.one, Nat.reduceAdd, Int.reduceLT, Int.reduceLE, ↓WD, W0, evalOp, Nat.reduceEqDiff, Nat.reduceLT, ↓reduceIte, reduceCtorEq, hl, e0, e1, oy2, oy3]
    exact ⟨rfl, (by simp only [List.length_set, hl]), (by simp only [W0, Nat.reduceEqDiff, Nat.reduceLT, ↓reduceIte, hl, e0, e1])⟩) ?_
  rintro envg4 _ ⟨rfl, hl, e4⟩
  try simp only [↓WD, W0, evalOp, Nat.reduceEqDiff, Nat.reduceLT, ↓reduceIte, reduceCtorEq, hl, e4]
  refine KP_ret (vs := [.int .u32 (orI .u32 y2 y3)]) (by simp only [aresults, aresult, gs, List.length_set, Nat.reduceEqDiff, Nat.reduceLT, ↓reduceIte, hl, e4]) ?_
  obtain rfl := Option.some.inj hF
  exact rfl
set_option maxRecDepth 100000 in
set_option maxHeartbeats 4000000 in
theorem W_ref04_words {K : PureK} (k61 : K 61 = some kf_61) (n60 : K 60 = none) (m : Nat) (hm : NF + 1 ≤ m) (h : AH) (s_ : List UInt8) {r : (List Int)} (hF : F_ref04_words s_ = some r) :
    AR (acall Try.prog (hooksOf K) (drawnOf Try.prog (tabOf K)) m 60 [.str s_] h) (fun v h' => ∃ w0 : AV, v = w0 ∧ Sep h [] h' [.row w0 85 1 (r.map (cellI .u32))]) := by
  obtain ⟨m, rfl⟩ : ∃ k, m = k + 1 := ⟨m - 1, by omega⟩
  refine AR_call (hooksOf_none n60) Try.func60 rfl _ _ fun env hl he => ?_
  have e0 := he 0
  simp only [List.getD_cons_zero, List.getD_cons_succ] at e0
  simp only [Try.f60] at hl ⊢
  simp only [List.length_cons, List.length_nil, Nat.reduceAdd, Nat.reduceSub] at hl
  clear he
  have S0 : Sep h [] h [] := Sep.nil h
  rw [F_ref04_words] at hF
  try simp only [↓WD, W0, evalOp, Nat.reduceEqDiff, Nat.reduceLT, ↓reduceIte, reduceCtorEq, hl, e0]
  rw [AW_region]
  refine AE_joinR (fun e h' => h = h' ∧ e.length = 87 ∧ e.getD 0 .undef = .str s_) (by
    simp only [↓WE, WA, WL, aop, ofValue, ofCell, isConst, abin, acall1, abuiltin, aun, AV.cells, AV.one, Nat.reduceAdd, Int.reduceLT, Int.reduceLE, ↓WD, W0, evalOp, Nat.reduceEqDiff, Nat.reduceLT, ↓reduceIte, reduceCtorEq, hl, e0]
    exact ⟨rfl, (by simp only [List.length_set, hl]), (by simp only [W0, Nat.reduceEqDiff, Nat.reduceLT, ↓reduceIte, hl, e0])⟩) ?_
  rintro envg1 _ ⟨rfl, hl, e0⟩
  try simp only [↓WD, W0, evalOp, Nat.reduceEqDiff, Nat.reduceLT, ↓reduceIte, reduceCtorEq, hl, e0]
  rw [AW_region]
  refine AE_joinR (fun e h' => h = h' ∧ e.length = 87 ∧ e.getD 0 .undef = .str s_ ∧ e.getD 3 .undef = .val (.slice none 0 0)) (by
    simp only [↓WE, WA, WL, aop, ofValue, ofCell, isConst, abin, acall1, abuiltin, aun, AV.cells, AV.one, Nat.reduceAdd, Int.reduceLT, Int.reduceLE, ↓WD, W0, evalOp, Nat.reduceEqDiff, Nat.reduceLT, ↓reduceIte, reduceCtorEq, hl, e0]
    exact ⟨rfl, (by simp only [List.length_set, hl]), (by simp only [W0, Nat.reduceEqDiff, Nat.reduceLT, ↓reduceIte, hl, e0]), (by simp only [W0, Nat.reduceEqDiff, Nat.reduceLT, ↓reduceIte, hl, e0])⟩) ?_
  rintro envg2 _ ⟨rfl, hl, e0, e3⟩
  try simp only [↓WD, W0, evalOp, Nat.reduceEqDiff, Nat.reduceLT, ↓reduceIte, reduceCtorEq, hl, e0, e3]
  rw [AW_region]
  refine AE_joinR (fun e h' => h = h' ∧ e.length = 87 ∧ e.getD 0 .undef = .str s_ ∧ e.getD 3 .undef = .val (.slice none 0 0) ∧ e.getD 4 .undef = .int .i64 0) (by
    simp only [↓WE, WA, WL, aop, ofValue, ofCell, isConst, abin, acall1, abuiltin, aun, AV.cells, AV.one, Nat.reduceAdd, Int.reduceLT, Int.reduceLE, ↓WD, W0, evalOp, Nat.reduceEqDiff, Nat.reduceLT, ↓reduceIte, reduceCtorEq, hl, e0, e3]
    exact ⟨rfl, (by simp only [List.length_set, hl]), (by simp only [W0, Nat.reduceEqDiff, Nat.reduceLT, ↓reduceIte, hl, e0, e3]), (by simp only [W0, Nat.reduceEqDiff, Nat.reduceLT, ↓reduceIte, hl, e0, e3]), (by simp only [W0, Nat.reduceEqDiff, Nat.reduceLT, ↓reduceIte, hl, e0, e3])⟩) ?_
  rintro envg3 _ ⟨rfl, hl, e0, e3, e4⟩
  try simp only [↓WD, W0, evalOp, Nat.reduceEqDiff, Nat.reduceLT, ↓reduceIte, reduceCtorEq, hl, e0, e3, e4]
  have S37 : Sep h [] h [.row (.val (.slice none 0 0)) 85 1 (([] : List Int).map (cellI .u32))] := S0.nilrow 85 1
  obtain ⟨r74, qr74, hF⟩ := obind hF
  refine AW_lift (L_ref04_words_1 s_) (fun s e h' => ∃ (u41 : AV), e.length = 87 ∧ e.getD 0 .undef = .str s_ ∧ e.getD 3 .undef = u41 ∧ e.getD 4 .undef = .int .i64 s.2 ∧ Sep h [] h' [.row u41 85 1 (s.1.map (cellI .u32))]) (fun r74 x e h' => ∃ (u75 : AV), x = .exit 0 ∧ e.length = 87 ∧ e.getD 3 .undef = u75 ∧ Sep h [] h' [.row u75 85 1 (r74.map (cellI .u32))]) qr74 (by omega) ?_ ?_ ?_
  · rintro s envr74 h42 or74 ⟨u41, hl, e0, e3, e4, S43⟩ wr74
    rw [L_ref04_words_1] at wr74
    try simp only [↓WD, W0, evalOp, Nat.reduceEqDiff, Nat.reduceLT, ↓reduceIte, reduceCtorEq, hl, e0, e3, e4]
    rw [AW_region]
    refine AE_joinR (fun e h' => h42 = h' ∧ e.length = 87 ∧ e.getD 0 .undef = .str s_ ∧ e.getD 3 .undef = u41 ∧ e.getD 4 .undef = .int .i64 s.2 ∧ e.getD 9 .undef = .bool (decide (s.2 < 64))) (by
      simp only [↓WE, WA, WL, aop, ofValue, ofCell, isConst, abin, acall1, abuiltin, aun, AV.cells, AV.one, Nat.reduceAdd, Int.reduceLT, Int.reduceLE, ↓WD, W0, evalOp, Nat.reduceEqDiff, Nat.reduceLT, ↓reduceIte, reduceCtorEq, hl, e0, e3, e4]
      exact ⟨rfl, (by simp only [List.length_set, hl]), (by simp only [W0, Nat.reduceEqDiff, Nat.reduceLT, ↓reduceIte, hl, e0, e3, e4]), (by simp only [W0, Nat.reduceEqDiff, Nat.reduceLT, ↓reduceIte, hl, e0, e3, e4]), (by simp only [W0, Nat.reduceEqDiff, Nat.reduceLT, ↓reduceIte, hl, e0, e3, e4]), (by simp only [W0, Nat.reduceEqDiff, Nat.reduceLT, ↓reduceIte, hl, e0, e3, e4])⟩) ?_
    rintro envg44 _ ⟨rfl, hl, e0, e3, e4, e9⟩
    try simp only [↓WD, W0, evalOp, Nat.reduceEqDiff, Nat.reduceLT, ↓reduceIte, reduceCtorEq, hl, e0, e3, e4, e9]
    refine CondK_dec (fun c46 => ?_) (fun c46 => ?_)
    · rw [if_pos c46] at wr74
      try simp only [↓WD, W0, evalOp, Nat.reduceEqDiff, Nat.reduceLT, ↓reduceIte, reduceCtorEq, hl, e0, e3, e4, e9]
      rw [AW_drawn, AE_drawnK (Ksub.cons k61 Ksub.nil) (by kernel_rfl)]
      obtain ⟨c47, qc47, wr74⟩ := obind wr74
      have oc47 := idx_str (P := Try.prog) (k := .i64) Try.underlying9 qc47
      have oc48 := fun g : AH => aconv_int (P := Try.prog) (h := g) (n := c47) (k' := .u8) Try.underlying5 Try.underlying85
      obtain ⟨y49, qy49, wr74⟩ := obind wr74
      have oy49 := shl_int (k := .u32) qy49
      obtain ⟨c50, qc50, wr74⟩ := obind wr74
      have oc50 := idx_str (P := Try.prog) (k := .i64) Try.underlying9 qc50
      have oc51 := fun g : AH => aconv_int (P := Try.prog) (h := g) (n := c50) (k' := .u8) Try.underlying5 Try.underlying85
      obtain ⟨y52, qy52, wr74⟩ := obind wr74
      have oy52 := shl_int (k := .u32) qy52
      obtain ⟨c53, qc53, wr74⟩ := obind wr74
      have oc53 := idx_str (P := Try.prog) (k := .i64) Try.underlying9 qc53
      have oc54 := fun g : AH => aconv_int (P := Try.prog) (h := g) (n := c53) (k' := .u8) Try.underlying5 Try.underlying85
      obtain ⟨y55, qy55, wr74⟩ := obind wr74
      have oy55 := shl_int (k := .u32) qy55
      obtain ⟨c56, qc56, wr74⟩ := obind wr74
      have oc56 := idx_str (P := Try.prog) (k := .i64) Try.underlying9 qc56
      have oc57 := fun g : AH => aconv_int (P := Try.prog) (h := g) (n := c56) (k' := .u8) Try.underlying5 Try.underlying85
      obtain ⟨u58, h59, ob60, S61⟩ := Sep.build (P := Try.prog) sl_82 S43 [.int .u32 (IntKind.u32.wrap ((IntKind.u32.wrap ((IntKind.u32.wrap (y49 + y52)) + y55)) + (IntKind.u32.wrap c56)))] (([IntKind.u32.wrap ((IntKind.u32.wrap ((IntKind.u32.wrap (y49 + y52)) + y55)) + (IntKind.u32.wrap c56))] : List Int).map (cellI .u32)) rfl (by simp [cellI]) (by simp)
      have ob60 : abuildSlice Try.prog 82 1 [(0, .int .u32 (IntKind.u32.wrap ((IntKind.u32.wrap ((IntKind.u32.wrap (y49 + y52)) + y55)) + (IntKind.u32.wrap c56))))] h42 = some (u58, h59) := ob60
      have S63 : Sep h [] h59 [.row u41 85 1 (s.1.map (cellI .u32)), .row u58 85 1 (([IntKind.u32.wrap ((IntKind.u32.wrap ((IntKind.u32.wrap (y49 + y52)) + y55)) + (IntKind.u32.wrap c56))] : List Int).map (cellI .u32))] := S61
      obtain ⟨zs64, qzs64, wr74⟩ := obind wr74
      obtain ⟨u65, h66, op67, S68⟩ := Sep.append (P := Try.prog) (t' := 82) sl_82 (by rw [Try.underlying82]; rfl) S63 0 rfl (S63.row_ro (i := 1) rfl) (fun _ => rfl) qzs64
      have S69 : Sep h [] h66 [.row u65 85 1 (zs64.map (cellI .u32)), .row u58 85 1 (([IntKind.u32.wrap ((IntKind.u32.wrap ((IntKind.u32.wrap (y49 + y52)) + y55)) + (IntKind.u32.wrap c56))] : List Int).map (cellI .u32))] := S68
      refine AE_joinR (fun e h' => h66 = h' ∧ e.length = 87 ∧ e.getD 0 .undef = .str s_ ∧ e.getD 3 .undef = u65 ∧ e.getD 4 .undef = .int .i64 s.2) (by
        simp only [↓WE, WA, WL, aop, ofValue, ofCell, isConst, abin, acall1, abuiltin, aun, AV.cells, AV.one, Nat.reduceAdd, Int.reduceLT, Int.reduceLE, ↓WD, W0, evalOp, Nat.reduceEqDiff, Nat.reduceLT, ↓reduceIte, reduceCtorEq, hl, e0, e3, e4, e9, oc47, oc48, oy49, oc50, oc51, oy52, oc53, oc54, oy55, oc56, oc57, ob60, op67]
        exact ⟨rfl, (by simp only [List.length_set, hl]), (by simp only [W0, Nat.reduceEqDiff, Nat.reduceLT, ↓reduceIte, hl, e0, e3, e4, e9]), (by simp only [W0, Nat.reduceEqDiff, Nat.reduceLT, ↓reduceIte, hl, e0, e3, e4, e9]), (by simp only [W0, Nat.reduceEqDiff, Nat.reduceLT, ↓reduceIte, hl, e0, e3, e4, e9])⟩) ?_
      rintro envg70 _ ⟨rfl, hl, e0, e3, e4⟩
      try simp only [↓WD, W0, evalOp, Nat.reduceEqDiff, Nat.reduceLT, ↓reduceIte, reduceCtorEq, hl, e0, e3, e4]
      rw [AW_region]
      refine AE_joinR (fun e h' => h66 = h' ∧ e.length = 87 ∧ e.getD 0 .undef = .str s_ ∧ e.getD 3 .undef = u65 ∧ e.getD 4 .undef = .int .i64 (IntKind.i64.wrap (s.2 + 4))) (by
        simp only [↓WE, WA, WL, aop, ofValue, ofCell, isConst, abin, acall1, abuiltin, aun, AV.cells, AV.one, Nat.reduceAdd, Int.reduceLT, Int.reduceLE, ↓WD, W0, evalOp, Nat.reduceEqDiff, Nat.reduceLT, ↓reduceIte, reduceCtorEq, hl, e0, e3, e4]
        exact ⟨rfl, (by simp only [List.length_set, hl]), (by simp only [W0, Nat.reduceEqDiff, Nat.reduceLT, ↓reduceIte, hl, e0, e3, e4]), (by simp only [W0, Nat.reduceEqDiff, Nat.reduceLT, ↓reduceIte, hl, e0, e3, e4]), (by simp only [W0, Nat.reduceEqDiff, Nat.reduceLT, ↓reduceIte, hl, e0, e3, e4])⟩) ?_
      rintro envg71 _ ⟨rfl, hl, e0, e3, e4⟩
      try simp only [↓WD, W0, evalOp, Nat.reduceEqDiff, Nat.reduceLT, ↓reduceIte, reduceCtorEq, hl, e0, e3, e4]
      obtain rfl := Option.some.inj wr74
      rw [KP_nil, QL_normal]
      exact ⟨_, rfl, u65, (by simp only [List.length_set, hl]), (by simp only [W0, Nat.reduceEqDiff, Nat.reduceLT, ↓reduceIte, hl, e0, e3, e4]), (by simp only [W0, Nat.reduceEqDiff, Nat.reduceLT, ↓reduceIte, hl, e0, e3, e4]), (by simp only [W0, Nat.reduceEqDiff, Nat.reduceLT, ↓reduceIte, hl, e0, e3, e4]), S69.pick [0] (by decide) rfl⟩
    · rw [if_neg c46] at wr74
      try simp only [↓WD, W0, evalOp, Nat.reduceEqDiff, Nat.reduceLT, ↓reduceIte, reduceCtorEq, hl, e0, e3, e4, e9]
      obtain rfl := Option.some.inj wr74
      rw [KP_nil, QL_exit]
      exact ⟨_, rfl, u41, rfl, (by simp only [List.length_set, hl]), (by simp only [W0, Nat.reduceEqDiff, Nat.reduceLT, ↓reduceIte, hl, e0, e3, e4, e9]), S43⟩
  · exact ⟨.val (.slice none 0 0), (by simp only [List.length_set, hl]), (by simp only [W0, Nat.reduceEqDiff, Nat.reduceLT, ↓reduceIte, hl, e0, e3, e4]), (by simp only [W0, Nat.reduceEqDiff, Nat.reduceLT, ↓reduceIte, hl, e0, e3, e4]), (by simp only [W0, Nat.reduceEqDiff, Nat.reduceLT, ↓reduceIte, hl, e0, e3, e4]), S37⟩
  · rintro x envr74 h76 ⟨u75, rfl, hl, e3, S77⟩
    try simp only [↓WD, W0, evalOp, Nat.reduceEqDiff, Nat.reduceLT, ↓reduceIte, reduceCtorEq, hl, e3]
    rw [AW_region]
    refine AE_joinR (fun e h' => h76 = h' ∧ e.length = 87 ∧ e.getD 3 .undef = u75 ∧ e.getD 5 .undef = .int .i64 16) (by
      simp only [↓WE, WA, WL, aop, ofValue, ofCell, isConst, abin, acall1, abuiltin, aun, AV.cells, AV.one, Nat.reduceAdd, Int.reduceLT, Int.reduceLE, ↓WD, W0, evalOp, Nat.reduceEqDiff, Nat.reduceLT, ↓reduceIte, reduceCtorEq, hl, e3]
      exact ⟨rfl, (by simp only [List.length_set, hl]), (by simp only [W0, Nat.reduceEqDiff, Nat.reduceLT, ↓reduceIte, hl, e3]), (by simp only [W0, Nat.reduceEqDiff, Nat.reduceLT, ↓reduceIte, hl, e3])⟩) ?_
    rintro envg78 _ ⟨rfl, hl, e3, e5⟩
    try simp only [↓WD, W0, evalOp, Nat.reduceEqDiff, Nat.reduceLT, ↓reduceIte, reduceCtorEq, hl, e3, e5]
    obtain ⟨r192, qr192, hF⟩ := obind hF
    refine AW_lift (L_ref04_words_2) (fun s e h' => ∃ (u135 : AV), e.length = 87 ∧ e.getD 3 .undef = u135 ∧ e.getD 5 .undef = .int .i64 s.2 ∧ Sep h [] h' [.row u135 85 1 (s.1.map (cellI .u32))]) (fun r192 x e h' => ∃ (u193 : AV), x = .exit 2 ∧ e.length = 87 ∧ e.getD 3 .undef = u193 ∧ Sep h [] h' [.row u193 85 1 (r192.map (cellI .u32))]) qr192 (by omega) ?_ ?_ ?_
    · rintro s envr192 h136 or192 ⟨u135, hl, e3, e5, S137⟩ wr192
      rw [L_ref04_words_2] at wr192
      try simp only [↓WD, W0, evalOp, Nat.reduceEqDiff, Nat.reduceLT, ↓reduceIte, reduceCtorEq, hl, e3, e5]
      rw [AW_region]
      refine AE_joinR (fun e h' => h136 = h' ∧ e.length = 87 ∧ e.getD 3 .undef = u135 ∧ e.getD 5 .undef = .int .i64 s.2 ∧ e.getD 41 .undef = .bool (decide (s.2 < 64))) (by
        simp only [↓WE, WA, WL, aop, ofValue, ofCell, isConst, abin, acall1, abuiltin, aun, AV.cells, AV.one, Nat.reduceAdd, Int.reduceLT, Int.reduceLE, ↓WD, W0, evalOp, Nat.reduceEqDiff, Nat.reduceLT, ↓reduceIte, reduceCtorEq, hl, e3, e5]
        exact ⟨rfl, (by simp only [List.length_set, hl]), (by simp only [W0, Nat.reduceEqDiff, Nat.reduceLT, ↓reduceIte, hl, e3, e5]), (by simp only [W0, Nat.reduceEqDiff, Nat.reduceLT, ↓reduceIte, hl, e3, e5]), (by simp only [W0, Nat.reduceEqDiff, Nat.reduceLT, ↓reduceIte, hl, e3, e5])⟩) ?_
      rintro envg138 _ ⟨rfl, hl, e3, e5, e41⟩
      try simp only [↓WD, W0, evalOp, Nat.reduceEqDiff, Nat.reduceLT, ↓reduceIte, reduceCtorEq, hl, e3, e5, e41]
      refine CondK_dec (fun c140 => ?_) (fun c140 => ?_)
      · rw [if_pos c140] at wr192
        try simp only [↓WD, W0, evalOp, Nat.reduceEqDiff, Nat.reduceLT, ↓reduceIte, reduceCtorEq, hl, e3, e5, e41]
        rw [AW_region]
        obtain ⟨x141, qx141, wr192⟩ := obind wr192
        obtain ⟨i142, off143, oi144, hp145⟩ := RO.addr (P := Try.prog) sl_82 (S137.row_ro (i := 0) rfl) qx141
        have ol146 := RO.ld (P := Try.prog) (S137.row_ro (i := 0) rfl) hp145 qx141 (t := 85) (o := 0) (v := .int .u32 x141) (by omega) (by simp only [apart, ag_85, sz_85]; rfl)
        simp only [Nat.add_zero] at ol146
        refine AE_joinR (fun e h' => h136 = h' ∧ e.length = 87 ∧ e.getD 3 .undef = u135 ∧ e.getD 5 .undef = .int .i64 s.2 ∧ e.getD 6 .undef = .int .u32 x141) (by
          simp only [↓WE, WA, WL, aop, ofValue, ofCell, isConst, abin, acall1, abuiltin, aun, AV.cells, AV.one, Nat.reduceAdd, Int.reduceLT, Int.reduceLE, ↓WD, W0, evalOp, Nat.reduceEqDiff, Nat.reduceLT, ↓reduceIte, reduceCtorEq, hl, e3, e5, e41, oi144, ol146]
          exact ⟨rfl, (by simp only [List.length_set, hl]), (by simp only [W0, Nat.reduceEqDiff, Nat.reduceLT, ↓reduceIte, hl, e3, e5, e41]), (by simp only [W0, Nat.reduceEqDiff, Nat.reduceLT, ↓reduceIte, hl, e3, e5, e41]), (by simp only [W0, Nat.reduceEqDiff, Nat.reduceLT, ↓reduceIte, hl, e3, e5, e41])⟩) ?_
        rintro envg147 _ ⟨rfl, hl, e3, e5, e6⟩
        try simp only [↓WD, W0, evalOp, Nat.reduceEqDiff, Nat.reduceLT, ↓reduceIte, reduceCtorEq, hl, e3, e5, e6]
        rw [AW_region]
        obtain ⟨x148, qx148, wr192⟩ := obind wr192
        obtain ⟨i149, off150, oi151, hp152⟩ := RO.addr (P := Try.prog) sl_82 (S137.row_ro (i := 0) rfl) qx148
        have ol153 := RO.ld (P := Try.prog) (S137.row_ro (i := 0) rfl) hp152 qx148 (t := 85) (o := 0) (v := .int .u32 x148) (by omega) (by simp only [apart, ag_85, sz_85]; rfl)
        simp only [Nat.add_zero] at ol153
        refine AE_joinR (fun e h' => h136 = h' ∧ e.length = 87 ∧ e.getD 3 .undef = u135 ∧ e.getD 5 .undef = .int .i64 s.2 ∧ e.getD 6 .undef = .int .u32 x141 ∧ e.getD 7 .undef = .int .u32 x148) (by
          simp only [↓WE, WA, WL, aop, ofValue, ofCell, isConst, abin, acall1, abuiltin, aun, AV.cells, AV.one, Nat.reduceAdd, Int.reduceLT, Int.reduceLE, ↓WD, W0, evalOp, Nat.reduceEqDiff, Nat.reduceLT, ↓reduceIte, reduceCtorEq, hl, e3, e5, e6, oi151, ol153]
          exact ⟨rfl, (by simp only [List.length_set, hl]), (by simp only [W0, Nat.reduceEqDiff, Nat.reduceLT, ↓reduceIte, hl, e3, e5, e6]), (by simp only [W0, Nat.reduceEqDiff, Nat.reduceLT, ↓reduceIte, hl, e3, e5, e6]), (by simp only [W0, Nat.reduceEqDiff, Nat.reduceLT, ↓reduceIte, hl, e3, e5, e6]), (by simp only [W0, Nat.reduceEqDiff, Nat.reduceLT, ↓reduceIte, hl, e3, e5, e6])⟩) ?_
        rintro envg154 _ ⟨rfl, hl, e3, e5, e6, e7⟩
        try simp only [↓WD, W0, evalOp, Nat.reduceEqDiff, Nat.reduceLT, ↓reduceIte, reduceCtorEq, hl, e3, e5, e6, e7]
        rw [AW_drawn, AE_drawnK (Ksub.cons k61 Ksub.nil) (by kernel_rfl)]
        obtain ⟨x155, qx155, wr192⟩ := obind wr192
        obtain ⟨i156, off157, oi158, hp159⟩ := RO.addr (P := Try.prog) sl_82 (S137.row_ro (i := 0) rfl) qx155
        have ol160 := RO.ld (P := Try.prog) (S137.row_ro (i := 0) rfl) hp159 qx155 (t := 85) (o := 0) (v := .int .u32 x155) (by omega) (by simp only [apart, ag_85, sz_85]; rfl)
        simp only [Nat.add_zero] at ol160
        obtain ⟨x161, qx161, wr192⟩ := obind wr192
        obtain ⟨i162, off163, oi164, hp165⟩ := RO.addr (P := Try.prog) sl_82 (S137.row_ro (i := 0) rfl) qx161
        have ol166 := RO.ld (P := Try.prog) (S137.row_ro (i := 0) rfl) hp165 qx161 (t := 85) (o := 0) (v := .int .u32 x161) (by omega) (by simp only [apart, ag_85, sz_85]; rfl)
        simp only [Nat.add_zero] at ol166
        obtain ⟨y167, qy167, wr192⟩ := obind wr192
        have og168 := fun (cf : CallF) (g : AH) => tab_hook (cf := cf) k61 (args := [.int .u32 x141, .int .i64 7]) (v := .int .u32 y167) ((kf_61_eq x141 7).trans (by rw [qy167]; rfl)) g
        obtain ⟨y169, qy169, wr192⟩ := obind wr192
        have og170 := fun (cf : CallF) (g : AH) => tab_hook (cf := cf) k61 (args := [.int .u32 x141, .int .i64 18]) (v := .int .u32 y169) ((kf_61_eq x141 18).trans (by rw [qy169]; rfl)) g
        obtain ⟨y171, qy171, wr192⟩ := obind wr192
        have oy171 := shr_int (k := .u32) qy171
        obtain ⟨y172, qy172, wr192⟩ := obind wr192
        have og173 := fun (cf : CallF) (g : AH) => tab_hook (cf := cf) k61 (args := [.int .u32 x148, .int .i64 17]) (v := .int .u32 y172) ((kf_61_eq x148 17).trans (by rw [qy172]; rfl)) g
        obtain ⟨y174, qy174, wr192⟩ := obind wr192
        have og175 := fun (cf : CallF) (g : AH) => tab_hook (cf := cf) k61 (args := [.int .u32 x148, .int .i64 19]) (v := .int .u32 y174) ((kf_61_eq x148 19).trans (by rw [qy174]; rfl)) g
        obtain ⟨y176, qy176, wr192⟩ := obind wr192
        have oy176 := shr_int (k := .u32) qy176
        obtain ⟨u177, h178, ob179, S180⟩ := Sep.build (P := Try.prog) sl_82 S137 [.int .u32 (IntKind.u32.wrap ((IntKind.u32.wrap ((IntKind.u32.wrap (x155 + x161)) + (xorI .u32 (xorI .u32 y167 y169) y171))) + (xorI .u32 (xorI .u32 y172 y174) y176)))] (([IntKind.u32.wrap ((IntKind.u32.wrap ((IntKind.u32.wrap (x155 + x161)) + (xorI .u32 (xorI .u32 y167 y169) y171))) + (xorI .u32 (xorI .u32 y172 y174) y176))] : List Int).map (cellI .u32)) rfl (by simp [cellI]) (by simp)
        have ob179 : abuildSlice Try.prog 82 1 [(0, .int .u32 (IntKind.u32.wrap ((IntKind.u32.wrap ((IntKind.u32.wrap (x155 + x161)) + (xorI .u32 (xorI .u32 y167 y169) y171))) + (xorI .u32 (xorI .u32 y172 y174) y176))))] h136 = some (u177, h178) := ob179
        have S182 : Sep h [] h178 [.row u135 85 1 (s.1.map (cellI .u32)), .row u177 85 1 (([IntKind.u32.wrap ((IntKind.u32.wrap ((IntKind.u32.wrap (x155 + x161)) + (xorI .u32 (xorI .u32 y167 y169) y171))) + (xorI .u32 (xorI .u32 y172 y174) y176))] : List Int).map (cellI .u32))] := S180
        obtain ⟨zs183, qzs183, wr192⟩ := obind wr192
        obtain ⟨u184, h185, op186, S187⟩ := Sep.append (P := Try.prog) (t' := 82) sl_82 (by rw [Try.underlying82]; rfl) S182 0 rfl (S182.row_ro (i := 1) rfl) (fun _ => rfl) qzs183
        have S188 : Sep h [] h185 [.row u184 85 1 (zs183.map (cellI .u32)), .row u177 85 1 (([IntKind.u32.wrap ((IntKind.u32.wrap ((IntKind.u32.wrap (x155 + x161)) + (xorI .u32 (xorI .u32 y167 y169) y171))) + (xorI .u32 (xorI .u32 y172 y174) y176))] : List Int).map (cellI .u32))] := S187
        refine AE_joinR (fun e h' => h185 = h' ∧ e.length = 87 ∧ e.getD 3 .undef = u184 ∧ e.getD 5 .undef = .int .i64 s.2) (by
          simp only [↓WE, WA, WL, aop, ofValue, ofCell, isConst, abin, acall1, abuiltin, aun, AV.cells, AV.one, Nat.reduceAdd, Int.reduceLT, Int.reduceLE, ↓WD, W0, evalOp, Nat.reduceEqDiff, Nat.reduceLT, ↓reduceIte, reduceCtorEq, hl, e3, e5, e6, e7, oi158, ol160, oi164, ol166, og168, og170, oy171, og173, og175, oy176, ob179, op186]
          exact ⟨rfl, (by simp only [List.length_set, hl]), (by simp only [W0, Nat.reduceEqDiff, Nat.reduceLT, ↓reduceIte, hl, e3, e5, e6, e7]), (by simp only [W0, Nat.reduceEqDiff, Nat.reduceLT, ↓reduceIte, hl, e3, e5, e6, e7])⟩) ?_
        rintro envg189 _ ⟨rfl, hl, e3, e5⟩
        try simp only [↓WD, W0, evalOp, Nat.reduceEqDiff, Nat.reduceLT, ↓reduceIte, reduceCtorEq, hl, e3, e5]
        rw [AW_region]
        refine AE_joinR (fun e h' => h185 = h' ∧ e.length = 87 ∧ e.getD 3 .undef = u184 ∧ e.getD 5 .undef = .int .i64 (IntKind.i64.wrap (s.2 + 1))) (by
          simp only [↓WE, WA, WL, aop, ofValue, ofCell, isConst, abin, acall1, abuiltin, aun, AV.cells, AV.one, Nat.reduceAdd, Int.reduceLT, Int.reduceLE, ↓WD, W0, evalOp, Nat.reduceEqDiff, Nat.reduceLT, ↓reduceIte, reduceCtorEq, hl, e3, e5]
          exact ⟨rfl, (by simp only [List.length_set, hl]), (by simp only [W0, Nat.reduceEqDiff, Nat.reduceLT, ↓reduceIte, hl, e3, e5]), (by simp only [W0, Nat.reduceEqDiff, Nat.reduceLT, ↓reduceIte, hl, e3, e5])⟩) ?_
        rintro envg190 _ ⟨rfl, hl, e3, e5⟩
        try simp only [↓WD, W0, evalOp, Nat.reduceEqDiff, Nat.reduceLT, ↓reduceIte, reduceCtorEq, hl, e3, e5]
        obtain rfl := Option.some.inj wr192
        rw [KP_nil, QL_normal]
        exact ⟨_, rfl, u184, (by simp only [List.length_set, hl]), (by simp only [W0, Nat.reduceEqDiff, Nat.reduceLT, ↓reduceIte, hl, e3, e5]), (by simp only [W0, Nat.reduceEqDiff, Nat.reduceLT, ↓reduceIte, hl, e3, e5]), S188.pick [0] (by decide) rfl⟩
      · rw [if_neg c140] at wr192
        try simp only [↓WD, W0, evalOp, Nat.reduceEqDiff, Nat.reduceLT, ↓reduceIte, reduceCtorEq, hl, e3, e5, e41]
        obtain rfl := Option.some.inj wr192
        rw [KP_nil, QL_exit]
        exact ⟨_, rfl, u135, rfl, (by simp only [List.length_set, hl]), (by simp only [W0, Nat.reduceEqDiff, Nat.reduceLT, ↓reduceIte, hl, e3, e5, e41]), S137⟩
    · exact ⟨u75, (by simp only [List.length_set, hl]), (by simp only [W0, Nat.reduceEqDiff, Nat.reduceLT, ↓reduceIte, hl, e3, e5]), (by simp only [W0, Nat.reduceEqDiff, Nat.reduceLT, ↓reduceIte, hl, e3, e5]), S77⟩
    · rintro x envr192 h194 ⟨u193, rfl, hl, e3, S195⟩
      try simp only [↓WD, W0, evalOp, Nat.reduceEqDiff, Nat.reduceLT, ↓reduceIte, reduceCtorEq, hl, e3]
      rw [AW_region]
      refine AE_joinR (fun e h' => h194 = h' ∧ e.length = 87 ∧ e.getD 2 .undef = u193) (by
        simp only [↓WE, WA, WL, aop, ofValue, ofCell, isConst, abin, acall1, abuiltin, aun, AV.cells, AV.one, Nat.reduceAdd, Int.reduceLT, Int.reduceLE, ↓WD, W0, evalOp, Nat.reduceEqDiff, Nat.reduceLT, ↓reduceIte, reduceCtorEq, hl, e3]
        exact ⟨rfl, (by simp only [List.length_set, hl]), (by simp only [W0, Nat.reduceEqDiff, Nat.reduceLT, ↓reduceIte, hl, e3])⟩) ?_
      rintro envg196 _ ⟨rfl, hl, e2⟩
      try simp only [↓WD, W0, evalOp, Nat.reduceEqDiff, Nat.reduceLT, ↓reduceIte, reduceCtorEq, hl, e2]
      refine KP_ret (vs := [u193]) (by simp only [aresults, aresult, gs, List.length_set, Nat.reduceEqDiff, Nat.reduceLT, ↓reduceIte, hl, e2]) ?_
      obtain rfl := Option.some.inj hF
      exact ⟨u193, rfl, S195⟩
set_option maxRecDepth 100000 in
set_option maxHeartbeats 4000000 in
theorem W_ref04_Of {K : PureK} (k59 : K 59 = some kf_59) (k61 : K 61 = some kf_61) (k98 : K 98 = some kf_98) (n58 : K 58 = none) (n60 : K 60 = none) (n97 : K 97 = none) (n15 : K 15 = none) (m : Nat) (hm : NF + 3 ≤ m) (h : AH) (s_ : List UInt8) {r : (List UInt8)} (hF : F_ref04_Of s_ = some r) :
    AR (acall Try.prog (hooksOf K) (drawnOf Try.prog (tabOf K)) m 15 [.str s_] h) (fun v h' => v = .str r) := by
  obtain ⟨m, rfl⟩ : ∃ k, m = k + 1 := ⟨m - 1, by omega⟩
  refine AR_call (hooksOf_none n15) Try.func15 rfl _ _ fun env hl he => ?_
  have e0 := he 0
  simp only [List.getD_cons_zero, List.getD_cons_succ] at e0
  simp only [Try.f15] at hl ⊢
  simp only [List.length_cons, List.length_nil, Nat.reduceAdd, Nat.reduceSub] at hl
  clear he
  have S0 : Sep h [] h [] := Sep.nil h
  rw [F_ref04_Of] at hF
  try simp only [↓WD, W0, evalOp, Nat.reduceEqDiff, Nat.reduceLT, ↓reduceIte, reduceCtorEq, hl, e0]
  rw [AW_region]
  refine AE_joinR (fun e h' => h = h' ∧ e.length = 195 ∧ e.getD 0 .undef = .str s_) (by
    simp only [↓WE, WA, WL, aop, ofValue, ofCell, isConst, abin, acall1, abuiltin, aun, AV.cells, AV.one, Nat.reduceAdd, Int.reduceLT, Int.reduceLE, ↓WD, W0, evalOp, Nat.reduceEqDiff, Nat.reduceLT, ↓reduceIte, reduceCtorEq, hl, e0]
    exact ⟨rfl, (by simp only [List.length_set, hl]), (by simp only [W0, Nat.reduceEqDiff, Nat.reduceLT, ↓reduceIte, hl, e0])⟩) ?_
  rintro envg1 _ ⟨rfl, hl, e0⟩
  try simp only [↓WD, W0, evalOp, Nat.reduceEqDiff, Nat.reduceLT, ↓reduceIte, reduceCtorEq, hl, e0]
  rw [AW_region]
  obtain ⟨y2, qy2, hF⟩ := obind hF
  obtain ⟨u6, h4, og3, _, rfl, S5⟩ := (W_ref04_roots k98 n97 n58 m (by omega) h 8 2 qy2).out
  have S9 : Sep h [] h4 [.row u6 85 1 (y2.map (cellI .u32))] := S0.call0 S5
  refine AE_joinR (fun e h' => h4 = h' ∧ e.length = 195 ∧ e.getD 0 .undef = .str s_ ∧ e.getD 3 .undef = u6) (by
    simp only [↓WE, WA, WL, aop, ofValue, ofCell, isConst, abin, acall1, abuiltin, aun, AV.cells, AV.one, Nat.reduceAdd, Int.reduceLT, Int.reduceLE, ↓WD, W0, evalOp, Nat.reduceEqDiff, Nat.reduceLT, ↓reduceIte, reduceCtorEq, hl, e0, og3]
    exact ⟨rfl, (by simp only [List.length_set, hl]), (by simp only [W0, Nat.reduceEqDiff, Nat.reduceLT, ↓reduceIte, hl, e0]), (by simp only [W0, Nat.reduceEqDiff, Nat.reduceLT, ↓reduceIte, hl, e0])⟩) ?_
  rintro envg10 _ ⟨rfl, hl, e0, e3⟩
  try simp only [↓WD, W0, evalOp, Nat.reduceEqDiff, Nat.reduceLT, ↓reduceIte, reduceCtorEq, hl, e0, e3]
  rw [AW_region]
  obtain ⟨y11, qy11, hF⟩ := obind hF
  obtain ⟨u15, h13, og12, _, rfl, S14⟩ := (W_ref04_roots k98 n97 n58 m (by omega) h4 64 3 qy11).out
  have S18 : Sep h [] h13 [.row u6 85 1 (y2.map (cellI .u32)), .row u15 85 1 (y11.map (cellI .u32))] := S9.call0 S14
  refine AE_joinR (fun e h' => h13 = h' ∧ e.length = 195 ∧ e.getD 0 .undef = .str s_ ∧ e.getD 3 .undef = u6 ∧ e.getD 4 .undef = u15) (by
    simp only [↓WE, WA, WL, aop, ofValue, ofCell, isConst, abin, acall1, abuiltin, aun, AV.cells, AV.one, Nat.reduceAdd, Int.reduceLT, Int.reduceLE, ↓WD, W0, evalOp, Nat.reduceEqDiff, Nat.reduceLT, ↓reduceIte, reduceCtorEq, hl, e0, e3, og12]
    exact ⟨rfl, (by simp only [List.length_set, hl]), (by simp only [W0, Nat.reduceEqDiff, Nat.reduceLT, ↓reduceIte, hl, e0, e3]), (by simp only [W0, Nat.reduceEqDiff, Nat.reduceLT, ↓reduceIte, hl, e0, e3]), (by simp only [W0, Nat.reduceEqDiff, Nat.reduceLT, ↓reduceIte, hl, e0, e3])⟩) ?_
  rintro envg19 _ ⟨rfl, hl, e0, e3, e4⟩
  try simp only [↓WD, W0, evalOp, Nat.reduceEqDiff, Nat.reduceLT, ↓reduceIte, reduceCtorEq, hl, e0, e3, e4]
  rw [AW_region]
  obtain ⟨y20, qy20, hF⟩ := obind hF
  have og21 := fun (D : Drawn) (n : Nat) (g : AH) => call_hook (P := Try.prog) (D := D) k59 n (args := [.str s_]) (v := .str y20) ((kf_59_eq s_).trans (by rw [qy20]; rfl)) g
  refine AE_joinR (fun e h' => h13 = h' ∧ e.length = 195 ∧ e.getD 0 .undef = .str y20 ∧ e.getD 3 .undef = u6 ∧ e.getD 4 .undef = u15) (by
    simp only [↓WE, WA, WL, aop, ofValue, ofCell, isConst, abin, acall1, abuiltin, aun, AV.cells, AV.one, Nat.reduceAdd, Int.reduceLT, Int.reduceLE, ↓WD, W0, evalOp, Nat.reduceEqDiff, Nat.reduceLT, ↓reduceIte, reduceCtorEq, hl, e0, e3, e4, og21]
    exact ⟨rfl, (by simp only [List.length_set, hl]), (by simp only [W0, Nat.reduceEqDiff, Nat.reduceLT, ↓reduceIte, hl, e0, e3, e4]), (by simp only [W0, Nat.reduceEqDiff, Nat.reduceLT, ↓reduceIte, hl, e0, e3, e4]), (by simp only [W0, Nat.reduceEqDiff, Nat.reduceLT, ↓reduceIte, hl, e0, e3, e4])⟩) ?_
  rintro envg22 _ ⟨rfl, hl, e0, e3, e4⟩
  try simp only [↓WD, W0, evalOp, Nat.reduceEqDiff, Nat.reduceLT, ↓reduceIte, reduceCtorEq, hl, e0, e3, e4]
  rw [AW_region]
  refine AE_joinR (fun e h' => h13 = h' ∧ e.length = 195 ∧ e.getD 0 .undef = .str y20 ∧ e.getD 3 .undef = u6 ∧ e.getD 4 .undef = u15 ∧ e.getD 5 .undef = .int .i64 0) (by
    simp only [↓WE, WA, WL, aop, ofValue, ofCell, isConst, abin, acall1, abuiltin, aun, AV.cells, AV.one, Nat.reduceAdd, Int.reduceLT, Int.reduceLE, ↓WD, W0, evalOp, Nat.reduceEqDiff, Nat.reduceLT, ↓reduceIte, reduceCtorEq, hl, e0, e3, e4]
    exact ⟨rfl, (by simp only [List.length_set, hl]), (by simp only [W0, Nat.reduceEqDiff, Nat.reduceLT, ↓reduceIte, hl, e0, e3, e4]), (by simp only [W0, Nat.reduceEqDiff, Nat.reduceLT, ↓reduceIte, hl, e0, e3, e4]), (by simp only [W0, Nat.reduceEqDiff, Nat.reduceLT, ↓reduceIte, hl, e0, e3, e4]), (by simp only [W0, Nat.reduceEqDiff, Nat.reduceLT, ↓reduceIte, hl, e0, e3, e4])⟩) ?_
  rintro envg23 _ ⟨rfl, hl, e0, e3, e4, e5⟩
  try simp only [↓WD, W0, evalOp, Nat.reduceEqDiff, Nat.reduceLT, ↓reduceIte, reduceCtorEq, hl, e0, e3, e4, e5]
  obtain ⟨r962, qr962, hF⟩ := obind hF
  refine AW_lift (L_ref04_Of_1 y20 y11) (fun s e h' => e.length = 195 ∧ e.getD 0 .undef = .str y20 ∧ e.getD 3 .undef = u6 ∧ e.getD 4 .undef = u15 ∧ e.getD 5 .undef = .int .i64 s.2 ∧ Sep h [] h' [.row u6 85 1 (s.1.map (cellI .u32)), .row u15 85 1 (y11.map (cellI .u32))]) (fun r962 x e h' => x = .exit 0 ∧ e.length = 195 ∧ e.getD 3 .undef = u6 ∧ Sep h [] h' [.row u6 85 1 (r962.map (cellI .u32))]) qr962 (by omega) ?_ ?_ ?_
  · rintro s envr962 h493 or962 ⟨hl, e0, e3, e4, e5, S494⟩ wr962
    rw [L_ref04_Of_1] at wr962
    try simp only [↓WD, W0, evalOp, Nat.reduceEqDiff, Nat.reduceLT, ↓reduceIte, reduceCtorEq, hl, e0, e3, e4, e5]
    rw [AW_region]
    have ol495 := fun g : AH => alen_str (P := Try.prog) (h := g) (l := y20) Try.underlying9
    refine AE_joinR (fun e h' => h493 = h' ∧ e.length = 195 ∧ e.getD 0 .undef = .str y20 ∧ e.getD 3 .undef = u6 ∧ e.getD 4 .undef = u15 ∧ e.getD 5 .undef = .int .i64 s.2 ∧ e.getD 21 .undef = .bool (decide (s.2 < (y20.length : Int)))) (by
      simp only [↓WE, WA, WL, aop, ofValue, ofCell, isConst, abin, acall1, abuiltin, aun, AV.cells, AV.one, Nat.reduceAdd, Int.reduceLT, Int.reduceLE, ↓WD, W0, evalOp, Nat.reduceEqDiff, Nat.reduceLT, ↓reduceIte, reduceCtorEq, hl, e0, e3, e4, e5, ol495]
      exact ⟨rfl, (by simp only [List.length_set, hl]), (by simp only [W0, Nat.reduceEqDiff, Nat.reduceLT, ↓reduceIte, hl, e0, e3, e4, e5]), (by simp only [W0, Nat.reduceEqDiff, Nat.reduceLT, ↓reduceIte, hl, e0, e3, e4, e5]), (by simp only [W0, Nat.reduceEqDiff, Nat.reduceLT, ↓reduceIte, hl, e0, e3, e4, e5]), (by simp only [W0, Nat.reduceEqDiff, Nat.reduceLT, ↓reduceIte, hl, e0, e3, e4, e5]), (by simp only [W0, Nat.reduceEqDiff, Nat.reduceLT, ↓reduceIte, hl, e0, e3, e4, e5])⟩) ?_
    rintro envg496 _ ⟨rfl, hl, e0, e3, e4, e5, e21⟩
    try simp only [↓WD, W0, evalOp, Nat.reduceEqDiff, Nat.reduceLT, ↓reduceIte, reduceCtorEq, hl, e0, e3, e4, e5, e21]
    refine CondK_dec (fun c498 => ?_) (fun c498 => ?_)
    · rw [if_pos c498] at wr962
      try simp only [↓WD, W0, evalOp, Nat.reduceEqDiff, Nat.reduceLT, ↓reduceIte, reduceCtorEq, hl, e0, e3, e4, e5, e21]
      rw [AW_region]
      obtain ⟨s499, qs499, wr962⟩ := obind wr962
      have os499 := fun g : AH => sub_str (P := Try.prog) (h := g) (k := .i64) (k' := .i64) Try.underlying9 qs499
      obtain ⟨y500, qy500, wr962⟩ := obind wr962
      obtain ⟨u504, h502, og501, _, rfl, S503⟩ := (W_ref04_words k61 n60 m (by omega) h493 s499 qy500).out
      have S507 : Sep h [] h502 [.row u6 85 1 (s.1.map (cellI .u32)), .row u15 85 1 (y11.map (cellI .u32)), .row u504 85 1 (y500.map (cellI .u32))] := S494.call0 S503
      refine AE_joinR (fun e h' => h502 = h' ∧ e.length = 195 ∧ e.getD 0 .undef = .str y20 ∧ e.getD 3 .undef = u6 ∧ e.getD 4 .undef = u15 ∧ e.getD 5 .undef = .int .i64 s.2 ∧ e.getD 6 .undef = u504) (by
        simp only [↓WE, WA, WL, aop, ofValue, ofCell, isConst, abin, acall1, abuiltin, aun, AV.cells, AV.one, Nat.reduceAdd, Int.reduceLT, Int.reduceLE, ↓WD, W0, evalOp, Nat.reduceEqDiff, Nat.reduceLT, ↓reduceIte, reduceCtorEq, hl, e0, e3, e4, e5, e21, os499, og501]
        exact ⟨rfl, (by simp only [List.length_set, hl]), (by simp only [W0, Nat.reduceEqDiff, Nat.reduceLT, ↓reduceIte, hl, e0, e3, e4, e5, e21]), (by simp only [W0, Nat.reduceEqDiff, Nat.reduceLT, ↓reduceIte, hl, e0, e3, e4, e5, e21]), (by simp only [W0, Nat.reduceEqDiff, Nat.reduceLT, ↓reduceIte, hl, e0, e3, e4, e5, e21]), (by simp only [W0, Nat.reduceEqDiff, Nat.reduceLT, ↓reduceIte, hl, e0, e3, e4, e5, e21]), (by simp only [W0, Nat.reduceEqDiff, Nat.reduceLT, ↓reduceIte, hl, e0, e3, e4, e5, e21])⟩) ?_
      rintro envg508 _ ⟨rfl, hl, e0, e3, e4, e5, e6⟩
      try simp only [↓WD, W0, evalOp, Nat.reduceEqDiff, Nat.reduceLT, ↓reduceIte, reduceCtorEq, hl, e0, e3, e4, e5, e6]
      rw [AW_region]
      obtain ⟨u509, h510, ob511, S512⟩ := Sep.build (P := Try.prog) sl_82 S507 [] (([] : List Int).map (cellI .u32)) rfl (by simp [cellI]) (by simp)
      have ob511 : abuildSlice Try.prog 82 0 [] h502 = some (u509, h510) := ob511
      have S514 : Sep h [] h510 [.row u6 85 1 (s.1.map (cellI .u32)), .row u15 85 1 (y11.map (cellI .u32)), .row u504 85 1 (y500.map (cellI .u32)), .row u509 85 1 (([] : List Int).map (cellI .u32))] := S512
      obtain ⟨zs515, qzs515, wr962⟩ := obind wr962
      obtain ⟨u516, h517, op518, S519⟩ := Sep.append (P := Try.prog) (t' := 82) sl_82 (by rw [Try.underlying82]; rfl) S514 3 rfl (S514.row_ro (i := 0) rfl) (fun _ => rfl) qzs515
      have S520 : Sep h [] h517 [.row u6 85 1 (s.1.map (cellI .u32)), .row u15 85 1 (y11.map (cellI .u32)), .row u504 85 1 (y500.map (cellI .u32)), .row u516 85 1 (zs515.map (cellI .u32))] := S519
      refine AE_joinR (fun e h' => h517 = h' ∧ e.length = 195 ∧ e.getD 0 .undef = .str y20 ∧ e.getD 3 .undef = u6 ∧ e.getD 4 .undef = u15 ∧ e.getD 5 .undef = .int .i64 s.2 ∧ e.getD 6 .undef = u504 ∧ e.getD 7 .undef = u516) (by
        simp only [↓WE, WA, WL, aop, ofValue, ofCell, isConst, abin, acall1, abuiltin, aun, AV.cells, AV.one, Nat.reduceAdd, Int.reduceLT, Int.reduceLE, ↓WD, W0, evalOp, Nat.reduceEqDiff, Nat.reduceLT, ↓reduceIte, reduceCtorEq, hl, e0, e3, e4, e5, e6, ob511, op518]
        exact ⟨rfl, (by simp only [List.length_set, hl]), (by simp only [W0, Nat.reduceEqDiff, Nat.reduceLT, ↓reduceIte, hl, e0, e3, e4, e5, e6]), (by simp only [W0, Nat.reduceEqDiff, Nat.reduceLT, ↓reduceIte, hl, e0, e3, e4, e5, e6]), (by simp only [W0, Nat.reduceEqDiff, Nat.reduceLT, ↓reduceIte, hl, e0, e3, e4, e5, e6]), (by simp only [W0, Nat.reduceEqDiff, Nat.reduceLT, ↓reduceIte, hl, e0, e3, e4, e5, e6]), (by simp only [W0, Nat.reduceEqDiff, Nat.reduceLT, ↓reduceIte, hl, e0, e3, e4, e5, e6]), (by simp only [W0, Nat.reduceEqDiff, Nat.reduceLT, ↓reduceIte, hl, e0, e3, e4, e5, e6])⟩) ?_
      rintro envg521 _ ⟨rfl, hl, e0, e3, e4, e5, e6, e7⟩
      try simp only [↓WD, W0, evalOp, Nat.reduceEqDiff, Nat.reduceLT, ↓reduceIte, reduceCtorEq, hl, e0, e3, e4, e5, e6, e7]
      rw [AW_region]
      refine AE_joinR (fun e h' => h517 = h' ∧ e.length = 195 ∧ e.getD 0 .undef = .str y20 ∧ e.getD 3 .undef = u6 ∧ e.getD 4 .undef = u15 ∧ e.getD 5 .undef = .int .i64 s.2 ∧ e.getD 6 .undef = u504 ∧ e.getD 7 .undef = u516 ∧ e.getD 8 .undef = .int .i64 0) (by
        simp only [↓WE, WA, WL, aop, ofValue, ofCell, isConst, abin, acall1, abuiltin, aun, AV.cells, AV.one, Nat.reduceAdd, Int.reduceLT, Int.reduceLE, ↓WD, W0, evalOp, Nat.reduceEqDiff, Nat.reduceLT, ↓reduceIte, reduceCtorEq, hl, e0, e3, e4, e5, e6, e7]
        exact ⟨rfl, (by simp only [List.length_set, hl]), (by simp only [W0, Nat.reduceEqDiff, Nat.reduceLT, ↓reduceIte, hl, e0, e3, e4, e5, e6, e7]), (by simp only [W0, Nat.reduceEqDiff, Nat.reduceLT, ↓reduceIte, hl, e0, e3, e4, e5, e6, e7]), (by simp only [W0, Nat.reduceEqDiff, Nat.reduceLT, ↓reduceIte, hl, e0, e3, e4, e5, e6, e7]), (by simp only [W0, Nat.reduceEqDiff, Nat.reduceLT, ↓reduceIte, hl, e0, e3, e4, e5, e6, e7]), (by simp only [W0, Nat.reduceEqDiff, Nat.reduceLT, ↓reduceIte, hl, e0, e3, e4, e5, e6, e7]), (by simp only [W0, Nat.reduceEqDiff, Nat.reduceLT, ↓reduceIte, hl, e0, e3, e4, e5, e6, e7]), (by simp only [W0, Nat.reduceEqDiff, Nat.reduceLT, ↓reduceIte, hl, e0, e3, e4, e5, e6, e7])⟩) ?_
      rintro envg522 _ ⟨rfl, hl, e0, e3, e4, e5, e6, e7, e8⟩
      try simp only [↓WD, W0, evalOp, Nat.reduceEqDiff, Nat.reduceLT, ↓reduceIte, reduceCtorEq, hl, e0, e3, e4, e5, e6, e7, e8]
      obtain ⟨r895, qr895, wr962⟩ := obind wr962
      refine AW_lift (L_ref04_Of_2 y11 y500) (fun s e h' => ∃ (u709 : AV), e.length = 195 ∧ e.getD 0 .undef = .str y20 ∧ e.getD 3 .undef = u6 ∧ e.getD 4 .undef = u15 ∧ e.getD 5 .undef = .int .i64 s.2.1 ∧ e.getD 6 .undef = u504 ∧ e.getD 7 .undef = u709 ∧ e.getD 8 .undef = .int .i64 s.2.2.2 ∧ Sep h [] h' [.row u6 85 1 (s.1.map (cellI .u32)), .row u15 85 1 (y11.map (cellI .u32)), .row u504 85 1 (y500.map (cellI .u32)), .row u709 85 1 (s.2.2.1.map (cellI .u32))]) (fun r895 x e h' => ∃ (u896 : AV), x = .exit 2 ∧ e.length = 195 ∧ e.getD 0 .undef = .str y20 ∧ e.getD 3 .undef = u6 ∧ e.getD 4 .undef = u15 ∧ e.getD 5 .undef = .int .i64 r895.2.1 ∧ e.getD 7 .undef = u896 ∧ Sep h [] h' [.row u6 85 1 (r895.1.map (cellI .u32)), .row u15 85 1 (y11.map (cellI .u32)), .row u896 85 1 (r895.2.2.map (cellI .u32))]) qr895 (by omega) ?_ ?_ ?_
      · rintro s envr895 h710 or895 ⟨u709, hl, e0, e3, e4, e5, e6, e7, e8, S711⟩ wr895
        rw [L_ref04_Of_2] at wr895
        try simp only [↓WD, W0, evalOp, Nat.reduceEqDiff, Nat.reduceLT, ↓reduceIte, reduceCtorEq, hl, e0, e3, e4, e5, e6, e7, e8]
        rw [AW_region]
        refine AE_joinR (fun e h' => h710 = h' ∧ e.length = 195 ∧ e.getD 0 .undef = .str y20 ∧ e.getD 3 .undef = u6 ∧ e.getD 4 .undef = u15 ∧ e.getD 5 .undef = .int .i64 s.2.1 ∧ e.getD 6 .undef = u504 ∧ e.getD 7 .undef = u709 ∧ e.getD 8 .undef = .int .i64 s.2.2.2 ∧ e.getD 34 .undef = .bool (decide (s.2.2.2 < 64))) (by
          simp only [↓WE, WA, WL, aop, ofValue, ofCell, isConst, abin, acall1, abuiltin, aun, AV.cells, AV.one, Nat.reduceAdd, Int.reduceLT, Int.reduceLE, ↓WD, W0, evalOp, Nat.reduceEqDiff, Nat.reduceLT, ↓reduceIte, reduceCtorEq, hl, e0, e3, e4, e5, e6, e7, e8]
          exact ⟨rfl, (by simp only [List.length_set, hl]), (by simp only [W0, Nat.reduceEqDiff, Nat.reduceLT, ↓reduceIte, hl, e0, e3, e4, e5, e6, e7, e8]), (by simp only [W0, Nat.reduceEqDiff, Nat.reduceLT, ↓reduceIte, hl, e0, e3, e4, e5, e6, e7, e8]), (by simp only [W0, Nat.reduceEqDiff, Nat.reduceLT, ↓reduceIte, hl, e0, e3, e4, e5, e6, e7, e8]), (by simp only [W0, Nat.reduceEqDiff, Nat.reduceLT, ↓reduceIte, hl, e0, e3, e4, e5, e6, e7, e8]), (by simp only [W0, Nat.reduceEqDiff, Nat.reduceLT, ↓reduceIte, hl, e0, e3, e4, e5, e6, e7, e8]), (by simp only [W0, Nat.reduceEqDiff, Nat.reduceLT, ↓reduceIte, hl, e0, e3, e4, e5, e6, e7, e8]), (by simp only [W0, Nat.reduceEqDiff, Nat.reduceLT, ↓reduceIte, hl, e0, e3, e4, e5, e6, e7, e8]), (by simp only [W0, Nat.reduceEqDiff, Nat.reduceLT, ↓reduceIte, hl, e0, e3, e4, e5, e6, e7, e8])⟩) ?_
        rintro envg712 _ ⟨rfl, hl, e0, e3, e4, e5, e6, e7, e8, e34⟩
        try simp only [↓WD, W0, evalOp, Nat.reduceEqDiff, Nat.reduceLT, ↓reduceIte, reduceCtorEq, hl, e0, e3, e4, e5, e6, e7, e8, e34]
        refine CondK_dec (fun c714 => ?_) (fun c714 => ?_)
        · rw [if_pos c714] at wr895
          try simp only [↓WD, W0, evalOp, Nat.reduceEqDiff, Nat.reduceLT, ↓reduceIte, reduceCtorEq, hl, e0, e3, e4, e5, e6, e7, e8, e34]
          rw [AW_drawn, AE_drawnK (Ksub.cons k59 (Ksub.cons k61 (Ksub.cons k98 Ksub.nil))) (by kernel_rfl)]
          obtain ⟨x715, qx715, wr895⟩ := obind wr895
          obtain ⟨i716, off717, oi718, hp719⟩ := RO.addr (P := Try.prog) sl_82 (S711.row_ro (i := 3) rfl) qx715
          have ol720 := RO.ld (P := Try.prog) (S711.row_ro (i := 3) rfl) hp719 qx715 (t := 85) (o := 0) (v := .int .u32 x715) (by omega) (by simp only [apart, ag_85, sz_85]; rfl)
          simp only [Nat.add_zero] at ol720
          obtain ⟨x721, qx721, wr895⟩ := obind wr895
          obtain ⟨i722, off723, oi724, hp725⟩ := RO.addr (P := Try.prog) sl_82 (S711.row_ro (i := 3) rfl) qx721
          have ol726 := RO.ld (P := Try.prog) (S711.row_ro (i := 3) rfl) hp725 qx721 (t := 85) (o := 0) (v := .int .u32 x721) (by omega) (by simp only [apart, ag_85, sz_85]; rfl)
          simp only [Nat.add_zero] at ol726
          obtain ⟨y727, qy727, wr895⟩ := obind wr895
          have og728 := fun (cf : CallF) (g : AH) => tab_hook (cf := cf) k61 (args := [.int .u32 x721, .int .i64 6]) (v := .int .u32 y727) ((kf_61_eq x721 6).trans (by rw [qy727]; rfl)) g
          have ol734 := RO.ld (P := Try.prog) (S711.row_ro (i := 3) rfl) hp725 qx721 (t := 85) (o := 0) (v := .int .u32 x721) (by omega) (by simp only [apart, ag_85, sz_85]; rfl)
          simp only [Nat.add_zero] at ol734
          obtain ⟨y735, qy735, wr895⟩ := obind wr895
          have og736 := fun (cf : CallF) (g : AH) => tab_hook (cf := cf) k61 (args := [.int .u32 x721, .int .i64 11]) (v := .int .u32 y735) ((kf_61_eq x721 11).trans (by rw [qy735]; rfl)) g
          have ol742 := RO.ld (P := Try.prog) (S711.row_ro (i := 3) rfl) hp725 qx721 (t := 85) (o := 0) (v := .int .u32 x721) (by omega) (by simp only [apart, ag_85, sz_85]; rfl)
          simp only [Nat.add_zero] at ol742
          obtain ⟨y743, qy743, wr895⟩ := obind wr895
          have og744 := fun (cf : CallF) (g : AH) => tab_hook (cf := cf) k61 (args := [.int .u32 x721, .int .i64 25]) (v := .int .u32 y743) ((kf_61_eq x721 25).trans (by rw [qy743]; rfl)) g
          have ol750 := RO.ld (P := Try.prog) (S711.row_ro (i := 3) rfl) hp725 qx721 (t := 85) (o := 0) (v := .int .u32 x721) (by omega) (by simp only [apart, ag_85, sz_85]; rfl)
          simp only [Nat.add_zero] at ol750
          obtain ⟨x751, qx751, wr895⟩ := obind wr895
          obtain ⟨i752, off753, oi754, hp755⟩ := RO.addr (P := Try.prog) sl_82 (S711.row_ro (i := 3) rfl) qx751
          have ol756 := RO.ld (P := Try.prog) (S711.row_ro (i := 3) rfl) hp755 qx751 (t := 85) (o := 0) (v := .int .u32 x751) (by omega) (by simp only [apart, ag_85, sz_85]; rfl)
          simp only [Nat.add_zero] at ol756
          have ol762 := RO.ld (P := Try.prog) (S711.row_ro (i := 3) rfl) hp725 qx721 (t := 85) (o := 0) (v := .int .u32 x721) (by omega) (by simp only [apart, ag_85, sz_85]; rfl)
          simp only [Nat.add_zero] at ol762
          obtain ⟨x763, qx763, wr895⟩ := obind wr895
          obtain ⟨i764, off765, oi766, hp767⟩ := RO.addr (P := Try.prog) sl_82 (S711.row_ro (i := 3) rfl) qx763
          have ol768 := RO.ld (P := Try.prog) (S711.row_ro (i := 3) rfl) hp767 qx763 (t := 85) (o := 0) (v := .int .u32 x763) (by omega) (by simp only [apart, ag_85, sz_85]; rfl)
          simp only [Nat.add_zero] at ol768
          obtain ⟨x769, qx769, wr895⟩ := obind wr895
          obtain ⟨i770, off771, oi772, hp773⟩ := RO.addr (P := Try.prog) sl_82 (S711.row_ro (i := 1) rfl) qx769
          have ol774 := RO.ld (P := Try.prog) (S711.row_ro (i := 1) rfl) hp773 qx769 (t := 85) (o := 0) (v := .int .u32 x769) (by omega) (by simp only [apart, ag_85, sz_85]; rfl)
          simp only [Nat.add_zero] at ol774
          obtain ⟨x775, qx775, wr895⟩ := obind wr895
          obtain ⟨i776, off777, oi778, hp779⟩ := RO.addr (P := Try.prog) sl_82 (S711.row_ro (i := 2) rfl) qx775
          have ol780 := RO.ld (P := Try.prog) (S711.row_ro (i := 2) rfl) hp779 qx775 (t := 85) (o := 0) (v := .int .u32 x775) (by omega) (by simp only [apart, ag_85, sz_85]; rfl)
          simp only [Nat.add_zero] at ol780
          refine AE_joinR (fun e h' => h710 = h' ∧ e.length = 195 ∧ e.getD 0 .undef = .str y20 ∧ e.getD 3 .undef = u6 ∧ e.getD 4 .undef = u15 ∧ e.getD 5 .undef = .int .i64 s.2.1 ∧ e.getD 6 .undef = u504 ∧ e.getD 7 .undef = u709 ∧ e.getD 8 .undef = .int .i64 s.2.2.2 ∧ e.getD 9 .undef = .int .u32 (IntKind.u32.wrap ((IntKind.u32.wrap ((IntKind.u32.wrap ((IntKind.u32.wrap (x715 + (xorI .u32 (xorI .u32 y727 y735) y743))) + (xorI .u32 (andI .u32 x721 x751) (andI .u32 (IntKind.u32.wrap (4294967295 - x721)) x763)))) + x769)) + x775))) (by
            simp only [↓WE, WA, WL, aop, ofValue, ofCell, isConst, abin, acall1, abuiltin, aun, AV.cells, AV.one, Nat.reduceAdd, Int.reduceLT, Int.reduceLE, ↓WD, W0, evalOp, Nat.reduceEqDiff, Nat.reduceLT, ↓reduceIte, reduceCtorEq, hl, e0, e3, e4, e5, e6, e7, e8, e34, oi718, ol720, oi724, ol726, og728, ol734, og736, ol742, og744, ol750, oi754, ol756, ol762, oi766, ol768, oi772, ol774, oi778, ol780]
            exact ⟨rfl, (by simp only [List.length_set, hl]), (by simp only [W0, Nat.reduceEqDiff, Nat.reduceLT, ↓reduceIte, hl, e0, e3, e4, e5, e6, e7, e8, e34]), (by simp only [W0, Nat.reduceEqDiff, Nat.reduceLT, ↓reduceIte, hl, e0, e3, e4, e5, e6, e7, e8, e34]), (by simp only [W0, Nat.reduceEqDiff, Nat.reduceLT, ↓reduceIte, hl, e0, e3, e4, e5, e6, e7, e8, e34]), (by simp only [W0, Nat.reduceEqDiff, Nat.reduceLT, ↓reduceIte, hl, e0, e3, e4, e5, e6, e7, e8, e34]), (by simp only [W0, Nat.reduceEqDiff, Nat.reduceLT, ↓reduceIte, hl, e0, e3, e4, e5, e6, e7, e8, e34]), (by simp only [W0, Nat.reduceEqDiff, Nat.reduceLT, ↓reduceIte, hl, e0, e3, e4, e5, e6, e7, e8, e34]), (by simp only [W0, Nat.reduceEqDiff, Nat.reduceLT, ↓reduceIte, hl, e0, e3, e4, e5, e6, e7, e8, e34]), (by simp only [W0, Nat.reduceEqDiff, Nat.reduceLT, ↓reduceIte, hl, e0, e3, e4, e5, e6, e7, e8, e34])⟩) ?_
          rintro envg781 _ ⟨rfl, hl, e0, e3, e4, e5, e6, e7, e8, e9⟩
          try simp only [↓WD, W0, evalOp, Nat.reduceEqDiff, Nat.reduceLT, ↓reduceIte, reduceCtorEq, hl, e0, e3, e4, e5, e6, e7, e8, e9]
          rw [AW_drawn, AE_drawnK (Ksub.cons k59 (Ksub.cons k61 (Ksub.cons k98 Ksub.nil))) (by kernel_rfl)]
          obtain ⟨x782, qx782, wr895⟩ := obind wr895
          obtain ⟨i783, off784, oi785, hp786⟩ := RO.addr (P := Try.prog) sl_82 (S711.row_ro (i := 3) rfl) qx782
          have ol787 := RO.ld (P := Try.prog) (S711.row_ro (i := 3) rfl) hp786 qx782 (t := 85) (o := 0) (v := .int .u32 x782) (by omega) (by simp only [apart, ag_85, sz_85]; rfl)
          simp only [Nat.add_zero] at ol787
          obtain ⟨y788, qy788, wr895⟩ := obind wr895
          have og789 := fun (cf : CallF) (g : AH) => tab_hook (cf := cf) k61 (args := [.int .u32 x782, .int .i64 2]) (v := .int .u32 y788) ((kf_61_eq x782 2).trans (by rw [qy788]; rfl)) g
          have ol795 := RO.ld (P := Try.prog) (S711.row_ro (i := 3) rfl) hp786 qx782 (t := 85) (o := 0) (v := .int .u32 x782) (by omega) (by simp only [apart, ag_85, sz_85]; rfl)
          simp only [Nat.add_zero] at ol795
          obtain ⟨y796, qy796, wr895⟩ := obind wr895
          have og797 := fun (cf : CallF) (g : AH) => tab_hook (cf := cf) k61 (args := [.int .u32 x782, .int .i64 13]) (v := .int .u32 y796) ((kf_61_eq x782 13).trans (by rw [qy796]; rfl)) g
          have ol803 := RO.ld (P := Try.prog) (S711.row_ro (i := 3) rfl) hp786 qx782 (t := 85) (o := 0) (v := .int .u32 x782) (by omega) (by simp only [apart, ag_85, sz_85]; rfl)
          simp only [Nat.add_zero] at ol803
          obtain ⟨y804, qy804, wr895⟩ := obind wr895
          have og805 := fun (cf : CallF) (g : AH) => tab_hook (cf := cf) k61 (args := [.int .u32 x782, .int .i64 22]) (v := .int .u32 y804) ((kf_61_eq x782 22).trans (by rw [qy804]; rfl)) g
          have ol811 := RO.ld (P := Try.prog) (S711.row_ro (i := 3) rfl) hp786 qx782 (t := 85) (o := 0) (v := .int .u32 x782) (by omega) (by simp only [apart, ag_85, sz_85]; rfl)
          simp only [Nat.add_zero] at ol811
          obtain ⟨x812, qx812, wr895⟩ := obind wr895
          obtain ⟨i813, off814, oi815, hp816⟩ := RO.addr (P := Try.prog) sl_82 (S711.row_ro (i := 3) rfl) qx812
          have ol817 := RO.ld (P := Try.prog) (S711.row_ro (i := 3) rfl) hp816 qx812 (t := 85) (o := 0) (v := .int .u32 x812) (by omega) (by simp only [apart, ag_85, sz_85]; rfl)
          simp only [Nat.add_zero] at ol817
          have ol823 := RO.ld (P := Try.prog) (S711.row_ro (i := 3) rfl) hp786 qx782 (t := 85) (o := 0) (v := .int .u32 x782) (by omega) (by simp only [apart, ag_85, sz_85]; rfl)
          simp only [Nat.add_zero] at ol823
          obtain ⟨x824, qx824, wr895⟩ := obind wr895
          obtain ⟨i825, off826, oi827, hp828⟩ := RO.addr (P := Try.prog) sl_82 (S711.row_ro (i := 3) rfl) qx824
          have ol829 := RO.ld (P := Try.prog) (S711.row_ro (i := 3) rfl) hp828 qx824 (t := 85) (o := 0) (v := .int .u32 x824) (by omega) (by simp only [apart, ag_85, sz_85]; rfl)
          simp only [Nat.add_zero] at ol829
          have ol835 := RO.ld (P := Try.prog) (S711.row_ro (i := 3) rfl) hp816 qx812 (t := 85) (o := 0) (v := .int .u32 x812) (by omega) (by simp only [apart, ag_85, sz_85]; rfl)
          simp only [Nat.add_zero] at ol835
          have ol841 := RO.ld (P := Try.prog) (S711.row_ro (i := 3) rfl) hp828 qx824 (t := 85) (o := 0) (v := .int .u32 x824) (by omega) (by simp only [apart, ag_85, sz_85]; rfl)
          simp only [Nat.add_zero] at ol841
          refine AE_joinR (fun e h' => h710 = h' ∧ e.length = 195 ∧ e.getD 0 .undef = .str y20 ∧ e.getD 3 .undef = u6 ∧ e.getD 4 .undef = u15 ∧ e.getD 5 .undef = .int .i64 s.2.1 ∧ e.getD 6 .undef = u504 ∧ e.getD 7 .undef = u709 ∧ e.getD 8 .undef = .int .i64 s.2.2.2 ∧ e.getD 9 .undef = .int .u32 (IntKind.u32.wrap ((IntKind.u32.wrap ((IntKind.u32.wrap ((IntKind.u32.wrap (x715 + (xorI .u32 (xorI .u32 y727 y735) y743))) + (xorI .u32 (andI .u32 x721 x751) (andI .u32 (IntKind.u32.wrap (4294967295 - x721)) x763)))) + x769)) + x775)) ∧ e.getD 10 .undef = .int .u32 (IntKind.u32.wrap ((xorI .u32 (xorI .u32 y788 y796) y804) + (xorI .u32 (xorI .u32 (andI .u32 x782 x812) (andI .u32 x782 x824)) (andI .u32 x812 x824))))) (by
            simp only [↓WE, WA, WL, aop, ofValue, ofCell, isConst, abin, acall1, abuiltin, aun, AV.cells, AV.one, Nat.reduceAdd, Int.reduceLT, Int.reduceLE, ↓WD, W0, evalOp, Nat.reduceEqDiff, Nat.reduceLT, ↓reduceIte, reduceCtorEq, hl, e0, e3, e4, e5, e6, e7, e8, e9, oi785, ol787, og789, ol795, og797, ol803, og805, ol811, oi815, ol817, ol823, oi827, ol829, ol835, ol841]
            exact ⟨rfl, (by simp only [List.length_set, hl]), (by simp only [W0, Nat.reduceEqDiff, Nat.reduceLT, ↓reduceIte, hl, e0, e3, e4, e5, e6, e7, e8, e9]), (by simp only [W0, Nat.reduceEqDiff, Nat.reduceLT, ↓reduceIte, hl, e0, e3, e4, e5, e6, e7, e8, e9]), (by simp only [W0, Nat.reduceEqDiff, Nat.reduceLT, ↓reduceIte, hl, e0, e3, e4, e5, e6, e7, e8, e9]), (by simp only [W0, Nat.reduceEqDiff, Nat.reduceLT, ↓reduceIte, hl, e0, e3, e4, e5, e6, e7, e8, e9]), (by simp only [W0, Nat.reduceEqDiff, Nat.reduceLT, ↓reduceIte, hl, e0, e3, e4, e5, e6, e7, e8, e9]), (by simp only [W0, Nat.reduceEqDiff, Nat.reduceLT, ↓reduceIte, hl, e0, e3, e4, e5, e6, e7, e8, e9]), (by simp only [W0, Nat.reduceEqDiff, Nat.reduceLT, ↓reduceIte, hl, e0, e3, e4, e5, e6, e7, e8, e9]), (by simp only [W0, Nat.reduceEqDiff, Nat.reduceLT, ↓reduceIte, hl, e0, e3, e4, e5, e6, e7, e8, e9]), (by simp only [W0, Nat.reduceEqDiff, Nat.reduceLT, ↓reduceIte, hl, e0, e3, e4, e5, e6, e7, e8, e9])⟩) ?_
          rintro envg842 _ ⟨rfl, hl, e0, e3, e4, e5, e6, e7, e8, e9, e10⟩
          try simp only [↓WD, W0, evalOp, Nat.reduceEqDiff, Nat.reduceLT, ↓reduceIte, reduceCtorEq, hl, e0, e3, e4, e5, e6, e7, e8, e9, e10]
          rw [AW_drawn, AE_drawnK (Ksub.cons k59 (Ksub.cons k61 (Ksub.cons k98 Ksub.nil))) (by kernel_rfl)]
          have ol848 := RO.ld (P := Try.prog) (S711.row_ro (i := 3) rfl) hp786 qx782 (t := 85) (o := 0) (v := .int .u32 x782) (by omega) (by simp only [apart, ag_85, sz_85]; rfl)
          simp only [Nat.add_zero] at ol848
          have ol854 := RO.ld (P := Try.prog) (S711.row_ro (i := 3) rfl) hp816 qx812 (t := 85) (o := 0) (v := .int .u32 x812) (by omega) (by simp only [apart, ag_85, sz_85]; rfl)
          simp only [Nat.add_zero] at ol854
          have ol860 := RO.ld (P := Try.prog) (S711.row_ro (i := 3) rfl) hp828 qx824 (t := 85) (o := 0) (v := .int .u32 x824) (by omega) (by simp only [apart, ag_85, sz_85]; rfl)
          simp only [Nat.add_zero] at ol860
          obtain ⟨x861, qx861, wr895⟩ := obind wr895
          obtain ⟨i862, off863, oi864, hp865⟩ := RO.addr (P := Try.prog) sl_82 (S711.row_ro (i := 3) rfl) qx861
          have ol866 := RO.ld (P := Try.prog) (S711.row_ro (i := 3) rfl) hp865 qx861 (t := 85) (o := 0) (v := .int .u32 x861) (by omega) (by simp only [apart, ag_85, sz_85]; rfl)
          simp only [Nat.add_zero] at ol866
          have ol872 := RO.ld (P := Try.prog) (S711.row_ro (i := 3) rfl) hp725 qx721 (t := 85) (o := 0) (v := .int .u32 x721) (by omega) (by simp only [apart, ag_85, sz_85]; rfl)
          simp only [Nat.add_zero] at ol872
          have ol878 := RO.ld (P := Try.prog) (S711.row_ro (i := 3) rfl) hp755 qx751 (t := 85) (o := 0) (v := .int .u32 x751) (by omega) (by simp only [apart, ag_85, sz_85]; rfl)
          simp only [Nat.add_zero] at ol878
          have ol884 := RO.ld (P := Try.prog) (S711.row_ro (i := 3) rfl) hp767 qx763 (t := 85) (o := 0) (v := .int .u32 x763) (by omega) (by simp only [apart, ag_85, sz_85]; rfl)
          simp only [Nat.add_zero] at ol884
          obtain ⟨u885, h886, ob887, S888⟩ := Sep.build (P := Try.prog) sl_82 S711 [.int .u32 (IntKind.u32.wrap ((IntKind.u32.wrap ((IntKind.u32.wrap ((IntKind.u32.wrap ((IntKind.u32.wrap (x715 + (xorI .u32 (xorI .u32 y727 y735) y743))) + (xorI .u32 (andI .u32 x721 x751) (andI .u32 (IntKind.u32.wrap (4294967295 - x721)) x763)))) + x769)) + x775)) + (IntKind.u32.wrap ((xorI .u32 (xorI .u32 y788 y796) y804) + (xorI .u32 (xorI .u32 (andI .u32 x782 x812) (andI .u32 x782 x824)) (andI .u32 x812 x824)))))), .int .u32 x782, .int .u32 x812, .int .u32 x824, .int .u32 (IntKind.u32.wrap (x861 + (IntKind.u32.wrap ((IntKind.u32.wrap ((IntKind.u32.wrap ((IntKind.u32.wrap (x715 + (xorI .u32 (xorI .u32 y727 y735) y743))) + (xorI .u32 (andI .u32 x721 x751) (andI .u32 (IntKind.u32.wrap (4294967295 - x721)) x763)))) + x769)) + x775)))), .int .u32 x721, .int .u32 x751, .int .u32 x763] (([IntKind.u32.wrap ((IntKind.u32.wrap ((IntKind.u32.wrap ((IntKind.u32.wrap ((IntKind.u32.wrap (x715 + (xorI .u32 (xorI .u32 y727 y735) y743))) + (xorI .u32 (andI .u32 x721 x751) (andI .u32 (IntKind.u32.wrap (4294967295 - x721)) x763)))) + x769)) + x775)) + (IntKind.u32.wrap ((xorI .u32 (xorI .u32 y788 y796) y804) + (xorI .u32 (xorI .u32 (andI .u32 x782 x812) (andI .u32 x782 x824)) (andI .u32 x812 x824))))), x782, x812, x824, IntKind.u32.wrap (x861 + (IntKind.u32.wrap ((IntKind.u32.wrap ((IntKind.u32.wrap ((IntKind.u32.wrap (x715 + (xorI .u32 (xorI .u32 y727 y735) y743))) + (xorI .u32 (andI .u32 x721 x751) (andI .u32 (IntKind.u32.wrap (4294967295 - x721)) x763)))) + x769)) + x775))), x721, x751, x763] : List Int).map (cellI .u32)) rfl (by simp [cellI]) (by simp)
          have ob887 : abuildSlice Try.prog 82 8 [(0, .int .u32 (IntKind.u32.wrap ((IntKind.u32.wrap ((IntKind.u32.wrap ((IntKind.u32.wrap ((IntKind.u32.wrap (x715 + (xorI .u32 (xorI .u32 y727 y735) y743))) + (xorI .u32 (andI .u32 x721 x751) (andI .u32 (IntKind.u32.wrap (4294967295 - x721)) x763)))) + x769)) + x775)) + (IntKind.u32.wrap ((xorI .u32 (xorI .u32 y788 y796) y804) + (xorI .u32 (xorI .u32 (andI .u32 x782 x812) (andI .u32 x782 x824)) (andI .u32 x812 x824))))))), (1, .int .u32 x782), (2, .int .u32 x812), (3, .int .u32 x824), (4, .int .u32 (IntKind.u32.wrap (x861 + (IntKind.u32.wrap ((IntKind.u32.wrap ((IntKind.u32.wrap ((IntKind.u32.wrap (x715 + (xorI .u32 (xorI .u32 y727 y735) y743))) + (xorI .u32 (andI .u32 x721 x751) (andI .u32 (IntKind.u32.wrap (4294967295 - x721)) x763)))) + x769)) + x775))))), (5, .int .u32 x721), (6, .int .u32 x751), (7, .int .u32 x763)] h710 = some (u885, h886) := ob887
          have S890 : Sep h [] h886 [.row u6 85 1 (s.1.map (cellI .u32)), .row u15 85 1 (y11.map (cellI .u32)), .row u504 85 1 (y500.map (cellI .u32)), .row u709 85 1 (s.2.2.1.map (cellI .u32)), .row u885 85 1 (([IntKind.u32.wrap ((IntKind.u32.wrap ((IntKind.u32.wrap ((IntKind.u32.wrap ((IntKind.u32.wrap (x715 + (xorI .u32 (xorI .u32 y727 y735) y743))) + (xorI .u32 (andI .u32 x721 x751) (andI .u32 (IntKind.u32.wrap (4294967295 - x721)) x763)))) + x769)) + x775)) + (IntKind.u32.wrap ((xorI .u32 (xorI .u32 y788 y796) y804) + (xorI .u32 (xorI .u32 (andI .u32 x782 x812) (andI .u32 x782 x824)) (andI .u32 x812 x824))))), x782, x812, x824, IntKind.u32.wrap (x861 + (IntKind.u32.wrap ((IntKind.u32.wrap ((IntKind.u32.wrap ((IntKind.u32.wrap (x715 + (xorI .u32 (xorI .u32 y727 y735) y743))) + (xorI .u32 (andI .u32 x721 x751) (andI .u32 (IntKind.u32.wrap (4294967295 - x721)) x763)))) + x769)) + x775))), x721, x751, x763] : List Int).map (cellI .u32))] := S888
          refine AE_joinR (fun e h' => h886 = h' ∧ e.length = 195 ∧ e.getD 0 .undef = .str y20 ∧ e.getD 3 .undef = u6 ∧ e.getD 4 .undef = u15 ∧ e.getD 5 .undef = .int .i64 s.2.1 ∧ e.getD 6 .undef = u504 ∧ e.getD 7 .undef = u885 ∧ e.getD 8 .undef = .int .i64 s.2.2.2) (by
            simp only [↓WE, WA, WL, aop, ofValue, ofCell, isConst, abin, acall1, abuiltin, aun, AV.cells, AV.one, Nat.reduceAdd, Int.reduceLT, Int.reduceLE, ↓WD, W0, evalOp, Nat.reduceEqDiff, Nat.reduceLT, ↓reduceIte, reduceCtorEq, hl, e0, e3, e4, e5, e6, e7, e8, e9, e10, oi785, ol848, oi815, ol854, oi827, ol860, oi864, ol866, oi724, ol872, oi754, ol878, oi766, ol884, ob887]
            exact ⟨rfl, (by simp only [List.length_set, hl]), (by simp only [W0, Nat.reduceEqDiff, Nat.reduceLT, ↓reduceIte, hl, e0, e3, e4, e5, e6, e7, e8, e9, e10]), (by simp only [W0, Nat.reduceEqDiff, Nat.reduceLT, ↓reduceIte, hl, e0, e3, e4, e5, e6, e7, e8, e9, e10]), (by simp only [W0, Nat.reduceEqDiff, Nat.reduceLT, ↓reduceIte, hl, e0, e3, e4, e5, e6, e7, e8, e9, e10]), (by simp only [W0, Nat.reduceEqDiff, Nat.reduceLT, ↓reduceIte, hl, e0, e3, e4, e5, e6, e7, e8, e9, e10]), (by simp only [W0, Nat.reduceEqDiff, Nat.reduceLT, ↓reduceIte, hl, e0, e3, e4, e5, e6, e7, e8, e9, e10]), (by simp only [W0, Nat.reduceEqDiff, Nat.reduceLT, ↓reduceIte, hl, e0, e3, e4, e5, e6, e7, e8, e9, e10]), (by simp only [W0, Nat.reduceEqDiff, Nat.reduceLT, ↓reduceIte, hl, e0, e3, e4, e5, e6, e7, e8, e9, e10])⟩) ?_
          rintro envg891 _ ⟨rfl, hl, e0, e3, e4, e5, e6, e7, e8⟩
          try simp only [↓WD, W0, evalOp, Nat.reduceEqDiff, Nat.reduceLT, ↓reduceIte, reduceCtorEq, hl, e0, e3, e4, e5, e6, e7, e8]
          rw [AW_region]
          refine AE_joinR (fun e h' => h886 = h' ∧ e.length = 195 ∧ e.getD 0 .undef = .str y20 ∧ e.getD 3 .undef = u6 ∧ e.getD 4 .undef = u15 ∧ e.getD 5 .undef = .int .i64 s.2.1 ∧ e.getD 6 .undef = u504 ∧ e.getD 7 .undef = u885 ∧ e.getD 8 .undef = .int .i64 (IntKind.i64.wrap (s.2.2.2 + 1))) (by
            simp only [↓WE, WA, WL, aop, ofValue, ofCell, isConst, abin, acall1, abuiltin, aun, AV.cells, AV.one, Nat.reduceAdd, Int.reduceLT, Int.reduceLE, ↓WD, W0, evalOp, Nat.reduceEqDiff, Nat.reduceLT, ↓reduceIte, reduceCtorEq, hl, e0, e3, e4, e5, e6, e7, e8]
            exact ⟨rfl, (by simp only [List.length_set, hl]), (by simp only [W0, Nat.reduceEqDiff, Nat.reduceLT, ↓reduceIte, hl, e0, e3, e4, e5, e6, e7, e8]), (by simp only [W0, Nat.reduceEqDiff, Nat.reduceLT, ↓reduceIte, hl, e0, e3, e4, e5, e6, e7, e8]), (by simp only [W0, Nat.reduceEqDiff, Nat.reduceLT, ↓reduceIte, hl, e0, e3, e4, e5, e6, e7, e8]), (by simp only [W0, Nat.reduceEqDiff, Nat.reduceLT, ↓reduceIte, hl, e0, e3, e4, e5, e6, e7, e8]), (by simp only [W0, Nat.reduceEqDiff, Nat.reduceLT, ↓reduceIte, hl, e0, e3, e4, e5, e6, e7, e8]), (by simp only [W0, Nat.reduceEqDiff, Nat.reduceLT, ↓reduceIte, hl, e0, e3, e4, e5, e6, e7, e8]), (by simp only [W0, Nat.reduceEqDiff, Nat.reduceLT, ↓reduceIte, hl, e0, e3, e4, e5, e6, e7, e8])⟩) ?_
          rintro envg892 _ ⟨rfl, hl, e0, e3, e4, e5, e6, e7, e8⟩
          try simp only [↓WD, W0, evalOp, Nat.reduceEqDiff, Nat.reduceLT, ↓reduceIte, reduceCtorEq, hl, e0, e3, e4, e5, e6, e7, e8]
          obtain rfl := Option.some.inj wr895
          rw [KP_nil, QL_normal]
          exact ⟨_, rfl, u885, (by simp only [List.length_set, hl]), (by simp only [W0, Nat.reduceEqDiff, Nat.reduceLT, ↓reduceIte, hl, e0, e3, e4, e5, e6, e7, e8]), (by simp only [W0, Nat.reduceEqDiff, Nat.reduceLT, ↓reduceIte, hl, e0, e3, e4, e5, e6, e7, e8]), (by simp only [W0, Nat.reduceEqDiff, Nat.reduceLT, ↓reduceIte, hl, e0, e3, e4, e5, e6, e7, e8]), (by simp only [W0, Nat.reduceEqDiff, Nat.reduceLT, ↓reduceIte, hl, e0, e3, e4, e5, e6, e7, e8]), (by simp only [W0, Nat.reduceEqDiff, Nat.reduceLT, ↓reduceIte, hl, e0, e3, e4, e5, e6, e7, e8]), (by simp only [W0, Nat.reduceEqDiff, Nat.reduceLT, ↓reduceIte, hl, e0, e3, e4, e5, e6, e7, e8]), (by simp only [W0, Nat.reduceEqDiff, Nat.reduceLT, ↓reduceIte, hl, e0, e3, e4, e5, e6, e7, e8]), S890.pick [0, 1, 2, 4] (by decide) rfl⟩
        · rw [if_neg c714] at wr895
          try simp only [↓WD, W0, evalOp, Nat.reduceEqDiff, Nat.reduceLT, ↓reduceIte, reduceCtorEq, hl, e0, e3, e4, e5, e6, e7, e8, e34]
          obtain rfl := Option.some.inj wr895
          rw [KP_nil, QL_exit]
          exact ⟨_, rfl, u709, rfl, (by simp only [List.length_set, hl]), (by simp only [W0, Nat.reduceEqDiff, Nat.reduceLT, ↓reduceIte, hl, e0, e3, e4, e5, e6, e7, e8, e34]), (by simp only [W0, Nat.reduceEqDiff, Nat.reduceLT, ↓reduceIte, hl, e0, e3, e4, e5, e6, e7, e8, e34]), (by simp only [W0, Nat.reduceEqDiff, Nat.reduceLT, ↓reduceIte, hl, e0, e3, e4, e5, e6, e7, e8, e34]), (by simp only [W0, Nat.reduceEqDiff, Nat.reduceLT, ↓reduceIte, hl, e0, e3, e4, e5, e6, e7, e8, e34]), (by simp only [W0, Nat.reduceEqDiff, Nat.reduceLT, ↓reduceIte, hl, e0, e3, e4, e5, e6, e7, e8, e34]), S711.pick [0, 1, 3] (by decide) rfl⟩
      · exact ⟨u516, (by simp only [List.length_set, hl]), (by simp only [W0, Nat.reduceEqDiff, Nat.reduceLT, ↓reduceIte, hl, e0, e3, e4, e5, e6, e7, e8]), (by simp only [W0, Nat.reduceEqDiff, Nat.reduceLT, ↓reduceIte, hl, e0, e3, e4, e5, e6, e7, e8]), (by simp only [W0, Nat.reduceEqDiff, Nat.reduceLT, ↓reduceIte, hl, e0, e3, e4, e5, e6, e7, e8]), (by simp only [W0, Nat.reduceEqDiff, Nat.reduceLT, ↓reduceIte, hl, e0, e3, e4, e5, e6, e7, e8]), (by simp only [W0, Nat.reduceEqDiff, Nat.reduceLT, ↓reduceIte, hl, e0, e3, e4, e5, e6, e7, e8]), (by simp only [W0, Nat.reduceEqDiff, Nat.reduceLT, ↓reduceIte, hl, e0, e3, e4, e5, e6, e7, e8]), (by simp only [W0, Nat.reduceEqDiff, Nat.reduceLT, ↓reduceIte, hl, e0, e3, e4, e5, e6, e7, e8]), S520⟩
      · rintro x envr895 h897 ⟨u896, rfl, hl, e0, e3, e4, e5, e7, S898⟩
        try simp only [↓WD, W0, evalOp, Nat.reduceEqDiff, Nat.reduceLT, ↓reduceIte, reduceCtorEq, hl, e0, e3, e4, e5, e7]
        rw [AW_region]
        refine AE_joinR (fun e h' => h897 = h' ∧ e.length = 195 ∧ e.getD 0 .undef = .str y20 ∧ e.getD 3 .undef = u6 ∧ e.getD 4 .undef = u15 ∧ e.getD 5 .undef = .int .i64 r895.2.1 ∧ e.getD 7 .undef = u896 ∧ e.getD 11 .undef = .int .i64 0) (by
          simp only [↓WE, WA, WL, aop, ofValue, ofCell, isConst, abin, acall1, abuiltin, aun, AV.cells, AV.one, Nat.reduceAdd, Int.reduceLT, Int.reduceLE, ↓WD, W0, evalOp, Nat.reduceEqDiff, Nat.reduceLT, ↓reduceIte, reduceCtorEq, hl, e0, e3, e4, e5, e7]
          exact ⟨rfl, (by simp only [List.length_set, hl]), (by simp only [W0, Nat.reduceEqDiff, Nat.reduceLT, ↓reduceIte, hl, e0, e3, e4, e5, e7]), (by simp only [W0, Nat.reduceEqDiff, Nat.reduceLT, ↓reduceIte, hl, e0, e3, e4, e5, e7]), (by simp only [W0, Nat.reduceEqDiff, Nat.reduceLT, ↓reduceIte, hl, e0, e3, e4, e5, e7]), (by simp only [W0, Nat.reduceEqDiff, Nat.reduceLT, ↓reduceIte, hl, e0, e3, e4, e5, e7]), (by simp only [W0, Nat.reduceEqDiff, Nat.reduceLT, ↓reduceIte, hl, e0, e3, e4, e5, e7]), (by simp only [W0, Nat.reduceEqDiff, Nat.reduceLT, ↓reduceIte, hl, e0, e3, e4, e5, e7])⟩) ?_
        rintro envg899 _ ⟨rfl, hl, e0, e3, e4, e5, e7, e11⟩
        try simp only [↓WD, W0, evalOp, Nat.reduceEqDiff, Nat.reduceLT, ↓reduceIte, reduceCtorEq, hl, e0, e3, e4, e5, e7, e11]
        obtain ⟨r958, qr958, wr962⟩ := obind wr962
        refine AW_lift (L_ref04_Of_3 r895) (fun s e h' => e.length = 195 ∧ e.getD 0 .undef = .str y20 ∧ e.getD 3 .undef = u6 ∧ e.getD 4 .undef = u15 ∧ e.getD 5 .undef = .int .i64 r895.2.1 ∧ e.getD 7 .undef = u896 ∧ e.getD 11 .undef = .int .i64 s.2 ∧ Sep h [] h' [.row u6 85 1 (s.1.map (cellI .u32)), .row u15 85 1 (y11.map (cellI .u32)), .row u896 85 1 (r895.2.2.map (cellI .u32))]) (fun r958 x e h' => x = .exit 4 ∧ e.length = 195 ∧ e.getD 0 .undef = .str y20 ∧ e.getD 3 .undef = u6 ∧ e.getD 4 .undef = u15 ∧ e.getD 5 .undef = .int .i64 r895.2.1 ∧ Sep h [] h' [.row u6 85 1 (r958.map (cellI .u32)), .row u15 85 1 (y11.map (cellI .u32))]) qr958 (by omega) ?_ ?_ ?_
        · rintro s envr958 h929 or958 ⟨hl, e0, e3, e4, e5, e7, e11, S930⟩ wr958
          rw [L_ref04_Of_3] at wr958
          try simp only [↓WD, W0, evalOp, Nat.reduceEqDiff, Nat.reduceLT, ↓reduceIte, reduceCtorEq, hl, e0, e3, e4, e5, e7, e11]
          rw [AW_region]
          refine AE_joinR (fun e h' => h929 = h' ∧ e.length = 195 ∧ e.getD 0 .undef = .str y20 ∧ e.getD 3 .undef = u6 ∧ e.getD 4 .undef = u15 ∧ e.getD 5 .undef = .int .i64 r895.2.1 ∧ e.getD 7 .undef = u896 ∧ e.getD 11 .undef = .int .i64 s.2 ∧ e.getD 148 .undef = .bool (decide (s.2 < 8))) (by
            simp only [↓WE, WA, WL, aop, ofValue, ofCell, isConst, abin, acall1, abuiltin, aun, AV.cells, AV.one, Nat.reduceAdd, Int.reduceLT, Int.reduceLE, ↓WD, W0, evalOp, Nat.reduceEqDiff, Nat.reduceLT, ↓reduceIte, reduceCtorEq, hl, e0, e3, e4, e5, e7, e11]
            exact ⟨rfl, (by simp only [List.length_set, hl]), (by simp only [W0, Nat.reduceEqDiff, Nat.reduceLT, ↓reduceIte, hl, e0, e3, e4, e5, e7, e11]), (by simp only [W0, Nat.reduceEqDiff, Nat.reduceLT, ↓reduceIte, hl, e0, e3, e4, e5, e7, e11]), (by simp only [W0, Nat.reduceEqDiff, Nat.reduceLT, ↓reduceIte, hl, e0, e3, e4, e5, e7, e11]), (by simp only [W0, Nat.reduceEqDiff, Nat.reduceLT, ↓reduceIte, hl, e0, e3, e4, e5, e7, e11]), (by simp only [W0, Nat.reduceEqDiff, Nat.reduceLT, ↓reduceIte, hl, e0, e3, e4, e5, e7, e11]), (by simp only [W0, Nat.reduceEqDiff, Nat.reduceLT, ↓reduceIte, hl, e0, e3, e4, e5, e7, e11]), (by simp only [W0, Nat.reduceEqDiff, Nat.reduceLT, ↓reduceIte, hl, e0, e3, e4, e5, e7, e11])⟩) ?_
          rintro envg931 _ ⟨rfl, hl, e0, e3, e4, e5, e7, e11, e148⟩
          try simp only [↓WD, W0, evalOp, Nat.reduceEqDiff, Nat.reduceLT, ↓reduceIte, reduceCtorEq, hl, e0, e3, e4, e5, e7, e11, e148]
          refine CondK_dec (fun c933 => ?_) (fun c933 => ?_)
          · rw [if_pos c933] at wr958
            try simp only [↓WD, W0, evalOp, Nat.reduceEqDiff, Nat.reduceLT, ↓reduceIte, reduceCtorEq, hl, e0, e3, e4, e5, e7, e11, e148]
            rw [AW_drawn, AE_drawnK (Ksub.cons k59 (Ksub.cons k61 (Ksub.cons k98 Ksub.nil))) (by kernel_rfl)]
            obtain ⟨x934, qx934, wr958⟩ := obind wr958
            obtain ⟨i935, off936, oi937, hp938⟩ := RO.addr (P := Try.prog) sl_82 (S930.row_ro (i := 0) rfl) qx934
            have ol939 := RO.ld (P := Try.prog) (S930.row_ro (i := 0) rfl) hp938 qx934 (t := 85) (o := 0) (v := .int .u32 x934) (by omega) (by simp only [apart, ag_85, sz_85]; rfl)
            simp only [Nat.add_zero] at ol939
            obtain ⟨x940, qx940, wr958⟩ := obind wr958
            obtain ⟨i941, off942, oi943, hp944⟩ := RO.addr (P := Try.prog) sl_82 (S930.row_ro (i := 2) rfl) qx940
            have ol945 := RO.ld (P := Try.prog) (S930.row_ro (i := 2) rfl) hp944 qx940 (t := 85) (o := 0) (v := .int .u32 x940) (by omega) (by simp only [apart, ag_85, sz_85]; rfl)
            simp only [Nat.add_zero] at ol945
            obtain ⟨y954, qy954, wr958⟩ := obind wr958
            obtain ⟨h951, os952, S953⟩ := S930.rstore (P := Try.prog) 0 rfl hp938 (x := x934) (z := IntKind.u32.wrap (x934 + x940)) (by first | exact qx934 | (simp only [idxL] at *; assumption)) (t := 85) (o := 0) (v := .int .u32 (IntKind.u32.wrap (x934 + x940))) rfl sz_85 rfl (by simp) rfl qy954
            simp only [Nat.add_zero] at os952
            have S955 : Sep h [] h951 [.row u6 85 1 (y954.map (cellI .u32)), .row u15 85 1 (y11.map (cellI .u32)), .row u896 85 1 (r895.2.2.map (cellI .u32))] := S953
            refine AE_joinR (fun e h' => h951 = h' ∧ e.length = 195 ∧ e.getD 0 .undef = .str y20 ∧ e.getD 3 .undef = u6 ∧ e.getD 4 .undef = u15 ∧ e.getD 5 .undef = .int .i64 r895.2.1 ∧ e.getD 7 .undef = u896 ∧ e.getD 11 .undef = .int .i64 s.2) (by
              simp only [↓WE, WA, WL, aop, ofValue, ofCell, isConst, abin, acall1, abuiltin, aun, AV.cells, AV.one, Nat.reduceAdd, Int.reduceLT, Int.reduceLE, ↓WD, W0, evalOp, Nat.reduceEqDiff, Nat.reduceLT, ↓reduceIte, reduceCtorEq, hl, e0, e3, e4, e5, e7, e11, e148, oi937, ol939, oi943, ol945, os952]
              exact ⟨rfl, (by simp only [List.length_set, hl]), (by simp only [W0, Nat.reduceEqDiff, Nat.reduceLT, ↓reduceIte, hl, e0, e3, e4, e5, e7, e11, e148]), (by simp only [W0, Nat.reduceEqDiff, Nat.reduceLT, ↓reduceIte, hl, e0, e3, e4, e5, e7, e11, e148]), (by simp only [W0, Nat.reduceEqDiff, Nat.reduceLT, ↓reduceIte, hl, e0, e3, e4, e5, e7, e11, e148]), (by simp only [W0, Nat.reduceEqDiff, Nat.reduceLT, ↓reduceIte, hl, e0, e3, e4, e5, e7, e11, e148]), (by simp only [W0, Nat.reduceEqDiff, Nat.reduceLT, ↓reduceIte, hl, e0, e3, e4, e5, e7, e11, e148]), (by simp only [W0, Nat.reduceEqDiff, Nat.reduceLT, ↓reduceIte, hl, e0, e3, e4, e5, e7, e11, e148])⟩) ?_
            rintro envg956 _ ⟨rfl, hl, e0, e3, e4, e5, e7, e11⟩
            try simp only [↓WD, W0, evalOp, Nat.reduceEqDiff, Nat.reduceLT, ↓reduceIte, reduceCtorEq, hl, e0, e3, e4, e5, e7, e11]
            rw [AW_region]
            refine AE_joinR (fun e h' => h951 = h' ∧ e.length = 195 ∧ e.getD 0 .undef = .str y20 ∧ e.getD 3 .undef = u6 ∧ e.getD 4 .undef = u15 ∧ e.getD 5 .undef = .int .i64 r895.2.1 ∧ e.getD 7 .undef = u896 ∧ e.getD 11 .undef = .int .i64 (IntKind.i64.wrap (s.2 + 1))) (by
              simp only [↓WE, WA, WL, aop, ofValue, ofCell, isConst, abin, acall1, abuiltin, aun, AV.cells, AV.one, Nat.reduceAdd, Int.reduceLT, Int.reduceLE, ↓WD, W0, evalOp, Nat.reduceEqDiff, Nat.reduceLT, ↓reduceIte, reduceCtorEq, hl, e0, e3, e4, e5, e7, e11]
              exact ⟨rfl, (by simp only [List.length_set, hl]), (by simp only [W0, Nat.reduceEqDiff, Nat.reduceLT, ↓reduceIte, hl, e0, e3, e4, e5, e7, e11]), (by simp only [W0, Nat.reduceEqDiff, Nat.reduceLT, ↓reduceIte, hl, e0, e3, e4, e5, e7, e11]), (by simp only [W0, Nat.reduceEqDiff, Nat.reduceLT, ↓reduceIte, hl, e0, e3, e4, e5, e7, e11]), (by simp only [W0, Nat.reduceEqDiff, Nat.reduceLT, ↓reduceIte, hl, e0, e3, e4, e5, e7, e11]), (by simp only [W0, Nat.reduceEqDiff, Nat.reduceLT, ↓reduceIte, hl, e0, e3, e4, e5, e7, e11]), (by simp only [W0, Nat.reduceEqDiff, Nat.reduceLT, ↓reduceIte, hl, e0, e3, e4, e5, e7, e11])⟩) ?_
            rintro envg957 _ ⟨rfl, hl, e0, e3, e4, e5, e7, e11⟩
            try simp only [↓WD, W0, evalOp, Nat.reduceEqDiff, Nat.reduceLT, ↓reduceIte, reduceCtorEq, hl, e0, e3, e4, e5, e7, e11]
            obtain rfl := Option.some.inj wr958
            rw [KP_nil, QL_normal]
            exact ⟨_, rfl, (by simp only [List.length_set, hl]), (by simp only [W0, Nat.reduceEqDiff, Nat.reduceLT, ↓reduceIte, hl, e0, e3, e4, e5, e7, e11]), (by simp only [W0, Nat.reduceEqDiff, Nat.reduceLT, ↓reduceIte, hl, e0, e3, e4, e5, e7, e11]), (by simp only [W0, Nat.reduceEqDiff, Nat.reduceLT, ↓reduceIte, hl, e0, e3, e4, e5, e7, e11]), (by simp only [W0, Nat.reduceEqDiff, Nat.reduceLT, ↓reduceIte, hl, e0, e3, e4, e5, e7, e11]), (by simp only [W0, Nat.reduceEqDiff, Nat.reduceLT, ↓reduceIte, hl, e0, e3, e4, e5, e7, e11]), (by simp only [W0, Nat.reduceEqDiff, Nat.reduceLT, ↓reduceIte, hl, e0, e3, e4, e5, e7, e11]), S955⟩
          · rw [if_neg c933] at wr958
            try simp only [↓WD, W0, evalOp, Nat.reduceEqDiff, Nat.reduceLT, ↓reduceIte, reduceCtorEq, hl, e0, e3, e4, e5, e7, e11, e148]
            obtain rfl := Option.some.inj wr958
            rw [KP_nil, QL_exit]
            exact ⟨_, rfl, rfl, (by simp only [List.length_set, hl]), (by simp only [W0, Nat.reduceEqDiff, Nat.reduceLT, ↓reduceIte, hl, e0, e3, e4, e5, e7, e11, e148]), (by simp only [W0, Nat.reduceEqDiff, Nat.reduceLT, ↓reduceIte, hl, e0, e3, e4, e5, e7, e11, e148]), (by simp only [W0, Nat.reduceEqDiff, Nat.reduceLT, ↓reduceIte, hl, e0, e3, e4, e5, e7, e11, e148]), (by simp only [W0, Nat.reduceEqDiff, Nat.reduceLT, ↓reduceIte, hl, e0, e3, e4, e5, e7, e11, e148]), S930.pick [0, 1] (by decide) rfl⟩
        · exact ⟨(by simp only [List.length_set, hl]), (by simp only [W0, Nat.reduceEqDiff, Nat.reduceLT, ↓reduceIte, hl, e0, e3, e4, e5, e7, e11]), (by simp only [W0, Nat.reduceEqDiff, Nat.reduceLT, ↓reduceIte, hl, e0, e3, e4, e5, e7, e11]), (by simp only [W0, Nat.reduceEqDiff, Nat.reduceLT, ↓reduceIte, hl, e0, e3, e4, e5, e7, e11]), (by simp only [W0, Nat.reduceEqDiff, Nat.reduceLT, ↓reduceIte, hl, e0, e3, e4, e5, e7, e11]), (by simp only [W0, Nat.reduceEqDiff, Nat.reduceLT, ↓reduceIte, hl, e0, e3, e4, e5, e7, e11]), (by simp only [W0, Nat.reduceEqDiff, Nat.reduceLT, ↓reduceIte, hl, e0, e3, e4, e5, e7, e11]), S898⟩
        · rintro x envr958 h959 ⟨rfl, hl, e0, e3, e4, e5, S960⟩
          try simp only [↓WD, W0, evalOp, Nat.reduceEqDiff, Nat.reduceLT, ↓reduceIte, reduceCtorEq, hl, e0, e3, e4, e5]
          rw [AW_region]
          refine AE_joinR (fun e h' => h959 = h' ∧ e.length = 195 ∧ e.getD 0 .undef = .str y20 ∧ e.getD 3 .undef = u6 ∧ e.getD 4 .undef = u15 ∧ e.getD 5 .undef = .int .i64 (IntKind.i64.wrap (r895.2.1 + 64))) (by
            simp only [↓WE, WA, WL, aop, ofValue, ofCell, isConst, abin, acall1, abuiltin, aun, AV.cells, AV.one, Nat.reduceAdd, Int.reduceLT, Int.reduceLE, ↓WD, W0, evalOp, Nat.reduceEqDiff, Nat.reduceLT, ↓reduceIte, reduceCtorEq, hl, e0, e3, e4, e5]
            exact ⟨rfl, (by simp only [List.length_set, hl]), (by simp only [W0, Nat.reduceEqDiff, Nat.reduceLT, ↓reduceIte, hl, e0, e3, e4, e5]), (by simp only [W0, Nat.reduceEqDiff, Nat.reduceLT, ↓reduceIte, hl, e0, e3, e4, e5]), (by simp only [W0, Nat.reduceEqDiff, Nat.reduceLT, ↓reduceIte, hl, e0, e3, e4, e5]), (by simp only [W0, Nat.reduceEqDiff, Nat.reduceLT, ↓reduceIte, hl, e0, e3, e4, e5])⟩) ?_
          rintro envg961 _ ⟨rfl, hl, e0, e3, e4, e5⟩
          try simp only [↓WD, W0, evalOp, Nat.reduceEqDiff, Nat.reduceLT, ↓reduceIte, reduceCtorEq, hl, e0, e3, e4, e5]
          obtain rfl := Option.some.inj wr962
          rw [KP_nil, QL_normal]
          exact ⟨_, rfl, (by simp only [List.length_set, hl]), (by simp only [W0, Nat.reduceEqDiff, Nat.reduceLT, ↓reduceIte, hl, e0, e3, e4, e5]), (by simp only [W0, Nat.reduceEqDiff, Nat.reduceLT, ↓reduceIte, hl, e0, e3, e4, e5]), (by simp only [W0, Nat.reduceEqDiff, Nat.reduceLT, ↓reduceIte, hl, e0, e3, e4, e5]), (by simp only [W0, Nat.reduceEqDiff, Nat.reduceLT, ↓reduceIte, hl, e0, e3, e4, e5]), S960⟩
    · rw [if_neg c498] at wr962
      try simp only [↓WD, W0, evalOp, Nat.reduceEqDiff, Nat.reduceLT, ↓reduceIte, reduceCtorEq, hl, e0, e3, e4, e5, e21]
      obtain rfl := Option.some.inj wr962
      rw [KP_nil, QL_exit]
      exact ⟨_, rfl, rfl, (by simp only [List.length_set, hl]), (by simp only [W0, Nat.reduceEqDiff, Nat.reduceLT, ↓reduceIte, hl, e0, e3, e4, e5, e21]), S494.pick [0] (by decide) rfl⟩
  · exact ⟨(by simp only [List.length_set, hl]), (by simp only [W0, Nat.reduceEqDiff, Nat.reduceLT, ↓reduceIte, hl, e0, e3, e4, e5]), (by simp only [W0, Nat.reduceEqDiff, Nat.reduceLT, ↓reduceIte, hl, e0, e3, e4, e5]), (by simp only [W0, Nat.reduceEqDiff, Nat.reduceLT, ↓reduceIte, hl, e0, e3, e4, e5]), (by simp only [W0, Nat.reduceEqDiff, Nat.reduceLT, ↓reduceIte, hl, e0, e3, e4, e5]), S18⟩
  · rintro x envr962 h963 ⟨rfl, hl, e3, S964⟩
    try simp only [↓WD, W0, evalOp, Nat.reduceEqDiff, Nat.reduceLT, ↓reduceIte, reduceCtorEq, hl, e3]
    rw [AW_region]
    refine AE_joinR (fun e h' => h963 = h' ∧ e.length = 195 ∧ e.getD 3 .undef = u6 ∧ e.getD 12 .undef = .val (.slice none 0 0)) (by
      simp only [↓WE, WA, WL, aop, ofValue, ofCell, isConst, abin, acall1, abuiltin, aun, AV.cells, AV.one, Nat.reduceAdd, Int.reduceLT, Int.reduceLE, ↓WD, W0, evalOp, Nat.reduceEqDiff, Nat.reduceLT, ↓reduceIte, reduceCtorEq, hl, e3]
      exact ⟨rfl, (by simp only [List.length_set, hl]), (by simp only [W0, Nat.reduceEqDiff, Nat.reduceLT, ↓reduceIte, hl, e3]), (by simp only [W0, Nat.reduceEqDiff, Nat.reduceLT, ↓reduceIte, hl, e3])⟩) ?_
    rintro envg965 _ ⟨rfl, hl, e3, e12⟩
    try simp only [↓WD, W0, evalOp, Nat.reduceEqDiff, Nat.reduceLT, ↓reduceIte, reduceCtorEq, hl, e3, e12]
    rw [AW_region]
    refine AE_joinR (fun e h' => h963 = h' ∧ e.length = 195 ∧ e.getD 3 .undef = u6 ∧ e.getD 12 .undef = .val (.slice none 0 0) ∧ e.getD 13 .undef = .int .i64 0) (by
      simp only [↓WE, WA, WL, aop, ofValue, ofCell, isConst, abin, acall1, abuiltin, aun, AV.cells, AV.one, Nat.reduceAdd, Int.reduceLT, Int.reduceLE, ↓WD, W0, evalOp, Nat.reduceEqDiff, Nat.reduceLT, ↓reduceIte, reduceCtorEq, hl, e3, e12]
      exact ⟨rfl, (by simp only [List.length_set, hl]), (by simp only [W0, Nat.reduceEqDiff, Nat.reduceLT, ↓reduceIte, hl, e3, e12]), (by simp only [W0, Nat.reduceEqDiff, Nat.reduceLT, ↓reduceIte, hl, e3, e12]), (by simp only [W0, Nat.reduceEqDiff, Nat.reduceLT, ↓reduceIte, hl, e3, e12])⟩) ?_
    rintro envg966 _ ⟨rfl, hl, e3, e12, e13⟩
    try simp only [↓WD, W0, evalOp, Nat.reduceEqDiff, Nat.reduceLT, ↓reduceIte, reduceCtorEq, hl, e3, e12, e13]
    have S1020 : Sep h [] h963 [.row u6 85 1 (r962.map (cellI .u32)), .row (.val (.slice none 0 0)) 5 1 (([] : List Int).map (cellI .u8))] := S964.nilrow 5 1
    obtain ⟨r1077, qr1077, hF⟩ := obind hF
    refine AW_lift (L_ref04_Of_4 r962) (fun s e h' => ∃ (u1024 : AV), e.length = 195 ∧ e.getD 3 .undef = u6 ∧ e.getD 12 .undef = u1024 ∧ e.getD 13 .undef = .int .i64 s.2 ∧ Sep h [] h' [.row u6 85 1 (r962.map (cellI .u32)), .row u1024 5 1 (s.1.map (cellI .u8))]) (fun r1077 x e h' => ∃ (u1078 : AV), x = .exit 6 ∧ e.length = 195 ∧ e.getD 12 .undef = u1078 ∧ Sep h [] h' [.row u1078 5 1 (r1077.map (cellI .u8))]) qr1077 (by omega) ?_ ?_ ?_
    · rintro s envr1077 h1025 or1077 ⟨u1024, hl, e3, e12, e13, S1026⟩ wr1077
      rw [L_ref04_Of_4] at wr1077
      try simp only [↓WD, W0, evalOp, Nat.reduceEqDiff, Nat.reduceLT, ↓reduceIte, reduceCtorEq, hl, e3, e12, e13]
      rw [AW_region]
      refine AE_joinR (fun e h' => h1025 = h' ∧ e.length = 195 ∧ e.getD 3 .undef = u6 ∧ e.getD 12 .undef = u1024 ∧ e.getD 13 .undef = .int .i64 s.2 ∧ e.getD 164 .undef = .bool (decide (s.2 < 8))) (by
        simp only [↓WE, WA, WL, aop, ofValue, ofCell, isConst, abin, acall1, abuiltin, aun, AV.cells, AV.one, Nat.reduceAdd, Int.reduceLT, Int.reduceLE, ↓WD, W0, evalOp, Nat.reduceEqDiff, Nat.reduceLT, ↓reduceIte, reduceCtorEq, hl, e3, e12, e13]
        exact ⟨rfl, (by simp only [List.length_set, hl]), (by simp only [W0, Nat.reduceEqDiff, Nat.reduceLT, ↓reduceIte, hl, e3, e12, e13]), (by simp only [W0, Nat.reduceEqDiff, Nat.reduceLT, ↓reduceIte, hl, e3, e12, e13]), (by simp only [W0, Nat.reduceEqDiff, Nat.reduceLT, ↓reduceIte, hl, e3, e12, e13]), (by simp only [W0, Nat.reduceEqDiff, Nat.reduceLT, ↓reduceIte, hl, e3, e12, e13])⟩) ?_
      rintro envg1027 _ ⟨rfl, hl, e3, e12, e13, e164⟩
      try simp only [↓WD, W0, evalOp, Nat.reduceEqDiff, Nat.reduceLT, ↓reduceIte, reduceCtorEq, hl, e3, e12, e13, e164]
      refine CondK_dec (fun c1029 => ?_) (fun c1029 => ?_)
      · rw [if_pos c1029] at wr1077
        try simp only [↓WD, W0, evalOp, Nat.reduceEqDiff, Nat.reduceLT, ↓reduceIte, reduceCtorEq, hl, e3, e12, e13, e164]
        rw [AW_drawn, AE_drawnK (Ksub.cons k59 (Ksub.cons k61 (Ksub.cons k98 Ksub.nil))) (by kernel_rfl)]
        obtain ⟨x1030, qx1030, wr1077⟩ := obind wr1077
        obtain ⟨i1031, off1032, oi1033, hp1034⟩ := RO.addr (P := Try.prog) sl_82 (S1026.row_ro (i := 0) rfl) qx1030
        have ol1035 := RO.ld (P := Try.prog) (S1026.row_ro (i := 0) rfl) hp1034 qx1030 (t := 85) (o := 0) (v := .int .u32 x1030) (by omega) (by simp only [apart, ag_85, sz_85]; rfl)
        simp only [Nat.add_zero] at ol1035
        obtain ⟨y1036, qy1036, wr1077⟩ := obind wr1077
        have oy1036 := shr_int (k := .u32) qy1036
        have oc1037 := fun g : AH => aconv_int (P := Try.prog) (h := g) (n := y1036) (k' := .u32) Try.underlying85 Try.underlying5
        have ol1043 := RO.ld (P := Try.prog) (S1026.row_ro (i := 0) rfl) hp1034 qx1030 (t := 85) (o := 0) (v := .int .u32 x1030) (by omega) (by simp only [apart, ag_85, sz_85]; rfl)
        simp only [Nat.add_zero] at ol1043
        obtain ⟨y1044, qy1044, wr1077⟩ := obind wr1077
        have oy1044 := shr_int (k := .u32) qy1044
        have oc1045 := fun g : AH => aconv_int (P := Try.prog) (h := g) (n := y1044) (k' := .u32) Try.underlying85 Try.underlying5
        have ol1051 := RO.ld (P := Try.prog) (S1026.row_ro (i := 0) rfl) hp1034 qx1030 (t := 85) (o := 0) (v := .int .u32 x1030) (by omega) (by simp only [apart, ag_85, sz_85]; rfl)
        simp only [Nat.add_zero] at ol1051
        obtain ⟨y1052, qy1052, wr1077⟩ := obind wr1077
        have oy1052 := shr_int (k := .u32) qy1052
        have oc1053 := fun g : AH => aconv_int (P := Try.prog) (h := g) (n := y1052) (k' := .u32) Try.underlying85 Try.underlying5
        have ol1059 := RO.ld (P := Try.prog) (S1026.row_ro (i := 0) rfl) hp1034 qx1030 (t := 85) (o := 0) (v := .int .u32 x1030) (by omega) (by simp only [apart, ag_85, sz_85]; rfl)
        simp only [Nat.add_zero] at ol1059
        have oc1060 := fun g : AH => aconv_int (P := Try.prog) (h := g) (n := x1030) (k' := .u32) Try.underlying85 Try.underlying5
        obtain ⟨u1061, h1062, ob1063, S1064⟩ := Sep.build (P := Try.prog) sl_28 S1026 [.int .u8 (IntKind.u8.wrap y1036), .int .u8 (IntKind.u8.wrap y1044), .int .u8 (IntKind.u8.wrap y1052), .int .u8 (IntKind.u8.wrap x1030)] (([IntKind.u8.wrap y1036, IntKind.u8.wrap y1044, IntKind.u8.wrap y1052, IntKind.u8.wrap x1030] : List Int).map (cellI .u8)) rfl (by simp [cellI]) (by simp)
        have ob1063 : abuildSlice Try.prog 28 4 [(0, .int .u8 (IntKind.u8.wrap y1036)), (1, .int .u8 (IntKind.u8.wrap y1044)), (2, .int .u8 (IntKind.u8.wrap y1052)), (3, .int .u8 (IntKind.u8.wrap x1030))] h1025 = some (u1061, h1062) := ob1063
        have S1066 : Sep h [] h1062 [.row u6 85 1 (r962.map (cellI .u32)), .row u1024 5 1 (s.1.map (cellI .u8)), .row u1061 5 1 (([IntKind.u8.wrap y1036, IntKind.u8.wrap y1044, IntKind.u8.wrap y1052, IntKind.u8.wrap x1030] : List Int).map (cellI .u8))] := S1064
        obtain ⟨zs1067, qzs1067, wr1077⟩ := obind wr1077
        obtain ⟨u1068, h1069, op1070, S1071⟩ := Sep.append (P := Try.prog) (t' := 28) sl_28 (by rw [Try.underlying28]; rfl) S1066 1 rfl (S1066.row_ro (i := 2) rfl) (fun _ => rfl) qzs1067
        have S1072 : Sep h [] h1069 [.row u6 85 1 (r962.map (cellI .u32)), .row u1068 5 1 (zs1067.map (cellI .u8)), .row u1061 5 1 (([IntKind.u8.wrap y1036, IntKind.u8.wrap y1044, IntKind.u8.wrap y1052, IntKind.u8.wrap x1030] : List Int).map (cellI .u8))] := S1071
        refine AE_joinR (fun e h' => h1069 = h' ∧ e.length = 195 ∧ e.getD 3 .undef = u6 ∧ e.getD 12 .undef = u1068 ∧ e.getD 13 .undef = .int .i64 s.2) (by
          simp only [↓WE, WA, WL, aop, ofValue, ofCell, isConst, abin, acall1, abuiltin, aun, AV.cells, AV.one, Nat.reduceAdd, Int.reduceLT, Int.reduceLE, ↓WD, W0, evalOp, Nat.reduceEqDiff, Nat.reduceLT, ↓reduceIte, reduceCtorEq, hl, e3, e12, e13, e164, oi1033, ol1035, oy1036, oc1037, ol1043, oy1044, oc1045, ol1051, oy1052, oc1053, ol1059, oc1060, ob1063, op1070]
          exact ⟨rfl, (by simp only [List.length_set, hl]), (by simp only [W0, Nat.reduceEqDiff, Nat.reduceLT, ↓reduceIte, hl, e3, e12, e13, e164]), (by simp only [W0, Nat.reduceEqDiff, Nat.reduceLT, ↓reduceIte, hl, e3, e12, e13, e164]), (by simp only [W0, Nat.reduceEqDiff, Nat.reduceLT, ↓reduceIte, hl, e3, e12, e13, e164])⟩) ?_
        rintro envg1073 _ ⟨rfl, hl, e3, e12, e13⟩
        try simp only [↓WD, W0, evalOp, Nat.reduceEqDiff, Nat.reduceLT, ↓reduceIte, reduceCtorEq, hl, e3, e12, e13]
        rw [AW_region]
        refine AE_joinR (fun e h' => h1069 = h' ∧ e.length = 195 ∧ e.getD 3 .undef = u6 ∧ e.getD 12 .undef = u1068 ∧ e.getD 13 .undef = .int .i64 (IntKind.i64.wrap (s.2 + 1))) (by
          simp only [↓WE, WA, WL, aop, ofValue, ofCell, isConst, abin, acall1, abuiltin, aun, AV.cells, AV.one, Nat.reduceAdd, Int.reduceLT, Int.reduceLE, ↓WD, W0, evalOp, Nat.reduceEqDiff, Nat.reduceLT, ↓reduceIte, reduceCtorEq, hl, e3, e12, e13]
          exact ⟨rfl, (by simp only [List.length_set, hl]), (by simp only [W0, Nat.reduceEqDiff, Nat.reduceLT, ↓reduceIte, hl, e3, e12, e13]), (by simp only [W0, Nat.reduceEqDiff, Nat.reduceLT, ↓reduceIte, hl, e3, e12, e13]), (by simp only [W0, Nat.reduceEqDiff, Nat.reduceLT, ↓reduceIte, hl, e3, e12, e13])⟩) ?_
        rintro envg1074 _ ⟨rfl, hl, e3, e12, e13⟩
        try simp only [↓WD, W0, evalOp, Nat.reduceEqDiff, Nat.reduceLT, ↓reduceIte, reduceCtorEq, hl, e3, e12, e13]
        obtain rfl := Option.some.inj wr1077
        rw [KP_nil, QL_normal]
        exact ⟨_, rfl, u1068, (by simp only [List.length_set, hl]), (by simp only [W0, Nat.reduceEqDiff, Nat.reduceLT, ↓reduceIte, hl, e3, e12, e13]), (by simp only [W0, Nat.reduceEqDiff, Nat.reduceLT, ↓reduceIte, hl, e3, e12, e13]), (by simp only [W0, Nat.reduceEqDiff, Nat.reduceLT, ↓reduceIte, hl, e3, e12, e13]), S1072.pick [0, 1] (by decide) rfl⟩
      · rw [if_neg c1029] at wr1077
        try simp only [↓WD, W0, evalOp, Nat.reduceEqDiff, Nat.reduceLT, ↓reduceIte, reduceCtorEq, hl, e3, e12, e13, e164]
        obtain rfl := Option.some.inj wr1077
        rw [KP_nil, QL_exit]
        exact ⟨_, rfl, u1024, rfl, (by simp only [List.length_set, hl]), (by simp only [W0, Nat.reduceEqDiff, Nat.reduceLT, ↓reduceIte, hl, e3, e12, e13, e164]), S1026.pick [1] (by decide) rfl⟩
    · exact ⟨.val (.slice none 0 0), (by simp only [List.length_set, hl]), (by simp only [W0, Nat.reduceEqDiff, Nat.reduceLT, ↓reduceIte, hl, e3, e12, e13]), (by simp only [W0, Nat.reduceEqDiff, Nat.reduceLT, ↓reduceIte, hl, e3, e12, e13]), (by simp only [W0, Nat.reduceEqDiff, Nat.reduceLT, ↓reduceIte, hl, e3, e12, e13]), S1020⟩
    · rintro x envr1077 h1079 ⟨u1078, rfl, hl, e12, S1080⟩
      try simp only [↓WD, W0, evalOp, Nat.reduceEqDiff, Nat.reduceLT, ↓reduceIte, reduceCtorEq, hl, e12]
      rw [AW_region]
      have oc1081 := RO.str (P := Try.prog) Try.underlying28 Try.underlying5 Try.underlying9 (S1080.row_ro (i := 0) rfl)
      refine AE_joinR (fun e h' => h1079 = h' ∧ e.length = 195 ∧ e.getD 2 .undef = .str (r1077.map byt)) (by
        simp only [↓WE, WA, WL, aop, ofValue, ofCell, isConst, abin, acall1, abuiltin, aun, AV.cells, AV.one, Nat.reduceAdd, Int.reduceLT, Int.reduceLE, ↓WD, W0, evalOp, Nat.reduceEqDiff, Nat.reduceLT, ↓reduceIte, reduceCtorEq, hl, e12, oc1081]
        exact ⟨rfl, (by simp only [List.length_set, hl]), (by simp only [W0, Nat.reduceEqDiff, Nat.reduceLT, ↓reduceIte, hl, e12])⟩) ?_
      rintro envg1082 _ ⟨rfl, hl, e2⟩
      try simp only [↓WD, W0, evalOp, Nat.reduceEqDiff, Nat.reduceLT, ↓reduceIte, reduceCtorEq, hl, e2]
      refine KP_ret (vs := [.str (r1077.map byt)]) (by simp only [aresults, aresult, gs, List.length_set, Nat.reduceEqDiff, Nat.reduceLT, ↓reduceIte, hl, e2]) ?_
      obtain rfl := Option.some.inj hF
      exact rfl
set_option maxRecDepth 100000 in
set_option maxHeartbeats 4000000 in
theorem W_law04_hex {K : PureK} (n18 : K 18 = none) (m : Nat) (hm : NF + 1 ≤ m) (h : AH) (s_ : List UInt8) {r : (List UInt8)} (hF : F_law04_hex s_ = some r) :
    AR (acall Try.prog (hooksOf K) (drawnOf Try.prog (tabOf K)) m 18 [.str s_] h) (fun v h' => v = .str r) := by
  obtain ⟨m, rfl⟩ : ∃ k, m = k + 1 := ⟨m - 1, by omega⟩
  refine AR_call (hooksOf_none n18) Try.func18 rfl _ _ fun env hl he => ?_
  have e0 := he 0
  simp only [List.getD_cons_zero, List.getD_cons_succ] at e0
  simp only [Try.f18] at hl ⊢
  simp only [List.length_cons, List.length_nil, Nat.reduceAdd, Nat.reduceSub] at hl
  clear he
  have S0 : Sep h [] h [] := Sep.nil h
  rw [F_law04_hex] at hF
  try simp only [↓WD, W0, evalOp, Nat.reduceEqDiff, Nat.reduceLT, ↓reduceIte, reduceCtorEq, hl, e0]
  rw [AW_region]
  refine AE_joinR (fun e h' => h = h' ∧ e.length = 26 ∧ e.getD 0 .undef = .str s_) (by
    simp only [↓WE, WA, WL, aop, ofValue, ofCell, isConst, abin, acall1, abuiltin, aun, AV.cells, AV.one, Nat.reduceAdd, Int.reduceLT, Int.reduceLE, ↓WD, W0, evalOp, Nat.reduceEqDiff, Nat.reduceLT, ↓reduceIte, reduceCtorEq, hl, e0]
    exact ⟨rfl, (by simp only [List.length_set, hl]), (by simp only [W0, Nat.reduceEqDiff, Nat.reduceLT, ↓reduceIte, hl, e0])⟩) ?_
  rintro envg1 _ ⟨rfl, hl, e0⟩
  try simp only [↓WD, W0, evalOp, Nat.reduceEqDiff, Nat.reduceLT, ↓reduceIte, reduceCtorEq, hl, e0]
  rw [AW_region]
  refine AE_joinR (fun e h' => h = h' ∧ e.length = 26 ∧ e.getD 0 .undef = .str s_ ∧ e.getD 3 .undef = .str []) (by
    simp only [↓WE, WA, WL, aop, ofValue, ofCell, isConst, abin, acall1, abuiltin, aun, AV.cells, AV.one, Nat.reduceAdd, Int.reduceLT, Int.reduceLE, ↓WD, W0, evalOp, Nat.reduceEqDiff, Nat.reduceLT, ↓reduceIte, reduceCtorEq, hl, e0]
    exact ⟨rfl, (by simp only [List.length_set, hl]), (by simp only [W0, Nat.reduceEqDiff, Nat.reduceLT, ↓reduceIte, hl, e0]), (by simp only [W0, Nat.reduceEqDiff, Nat.reduceLT, ↓reduceIte, hl, e0])⟩) ?_
  rintro envg2 _ ⟨rfl, hl, e0, e3⟩
  try simp only [↓WD, W0, evalOp, Nat.reduceEqDiff, Nat.reduceLT, ↓reduceIte, reduceCtorEq, hl, e0, e3]
  rw [AW_region]
  have ol3 := fun g : AH => alen_str (P := Try.prog) (h := g) (l := s_) Try.underlying9
  refine AE_joinR (fun e h' => h = h' ∧ e.length = 26 ∧ e.getD 0 .undef = .str s_ ∧ e.getD 3 .undef = .str [] ∧ e.getD 6 .undef = .int .i64 (s_.length : Int) ∧ e.getD 7 .undef = .int .i64 0) (by
    simp only [↓WE, WA, WL, aop, ofValue, ofCell, isConst, abin, acall1, abuiltin, aun, AV.cells, AV.one, Nat.reduceAdd, Int.reduceLT, Int.reduceLE, ↓WD, W0, evalOp, Nat.reduceEqDiff, Nat.reduceLT, ↓reduceIte, reduceCtorEq, hl, e0, e3, ol3]
    exact ⟨rfl, (by simp only [List.length_set, hl]), (by simp only [W0, Nat.reduceEqDiff, Nat.reduceLT, ↓reduceIte, hl, e0, e3]), (by simp only [W0, Nat.reduceEqDiff, Nat.reduceLT, ↓reduceIte, hl, e0, e3]), (by simp only [W0, Nat.reduceEqDiff, Nat.reduceLT, ↓reduceIte, hl, e0, e3]), (by simp only [W0, Nat.reduceEqDiff, Nat.reduceLT, ↓reduceIte, hl, e0, e3])⟩) ?_
  rintro envg4 _ ⟨rfl, hl, e0, e3, e6, e7⟩
  try simp only [↓WD, W0, evalOp, Nat.reduceEqDiff, Nat.reduceLT, ↓reduceIte, reduceCtorEq, hl, e0, e3, e6, e7]
  obtain ⟨r49, qr49, hF⟩ := obind hF
  refine AW_lift (L_law04_hex_1 s_) (fun s e h' => e.length = 26 ∧ e.getD 0 .undef = .str s_ ∧ e.getD 3 .undef = .str s.1 ∧ e.getD 6 .undef = .int .i64 (s_.length : Int) ∧ e.getD 7 .undef = .int .i64 s.2 ∧ Sep h [] h' []) (fun r49 x e h' => x = .exit 0 ∧ e.length = 26 ∧ e.getD 3 .undef = .str r49 ∧ Sep h [] h' []) qr49 (by omega) ?_ ?_ ?_
  · rintro s envr49 h27 or49 ⟨hl, e0, e3, e6, e7, S28⟩ wr49
    rw [L_law04_hex_1] at wr49
    try simp only [↓WD, W0, evalOp, Nat.reduceEqDiff, Nat.reduceLT, ↓reduceIte, reduceCtorEq, hl, e0, e3, e6, e7]
    rw [AW_region]
    refine AE_joinR (fun e h' => h27 = h' ∧ e.length = 26 ∧ e.getD 0 .undef = .str s_ ∧ e.getD 3 .undef = .str s.1 ∧ e.getD 6 .undef = .int .i64 (s_.length : Int) ∧ e.getD 7 .undef = .int .i64 s.2 ∧ e.getD 8 .undef = .bool (decide (s.2 < (s_.length : Int)))) (by
      simp only [↓WE, WA, WL, aop, ofValue, ofCell, isConst, abin, acall1, abuiltin, aun, AV.cells, AV.one, Nat.reduceAdd, Int.reduceLT, Int.reduceLE, ↓WD, W0, evalOp, Nat.reduceEqDiff, Nat.reduceLT, ↓reduceIte, reduceCtorEq, hl, e0, e3, e6, e7]
      exact ⟨rfl, (by simp only [List.length_set, hl]), (by simp only [W0, Nat.reduceEqDiff, Nat.reduceLT, ↓reduceIte, hl, e0, e3, e6, e7]), (by simp only [W0, Nat.reduceEqDiff, Nat.reduceLT, ↓reduceIte, hl, e0, e3, e6, e7]), (by simp only [W0, Nat.reduceEqDiff, Nat.reduceLT, ↓reduceIte, hl, e0, e3, e6, e7]), (by simp only [W0, Nat.reduceEqDiff, Nat.reduceLT, ↓reduceIte, hl, e0, e3, e6, e7]), (by simp only [W0, Nat.reduceEqDiff, Nat.reduceLT, ↓reduceIte, hl, e0, e3, e6, e7])⟩) ?_
    rintro envg29 _ ⟨rfl, hl, e0, e3, e6, e7, e8⟩
    try simp only [↓WD, W0, evalOp, Nat.reduceEqDiff, Nat.reduceLT, ↓reduceIte, reduceCtorEq, hl, e0, e3, e6, e7, e8]
    refine CondK_dec (fun c31 => ?_) (fun c31 => ?_)
    · rw [if_pos c31] at wr49
      try simp only [↓WD, W0, evalOp, Nat.reduceEqDiff, Nat.reduceLT, ↓reduceIte, reduceCtorEq, hl, e0, e3, e6, e7, e8]
      rw [AW_region]
      refine AE_joinR (fun e h' => h27 = h' ∧ e.length = 26 ∧ e.getD 0 .undef = .str s_ ∧ e.getD 3 .undef = .str s.1 ∧ e.getD 4 .undef = .int .i64 s.2 ∧ e.getD 6 .undef = .int .i64 (s_.length : Int) ∧ e.getD 7 .undef = .int .i64 s.2) (by
        simp only [↓WE, WA, WL, aop, ofValue, ofCell, isConst, abin, acall1, abuiltin, aun, AV.cells, AV.one, Nat.reduceAdd, Int.reduceLT, Int.reduceLE, ↓WD, W0, evalOp, Nat.reduceEqDiff, Nat.reduceLT, ↓reduceIte, reduceCtorEq, hl, e0, e3, e6, e7, e8]
        exact ⟨rfl, (by simp only [List.length_set, hl]), (by simp only [W0, Nat.reduceEqDiff, Nat.reduceLT, ↓reduceIte, hl, e0, e3, e6, e7, e8]), (by simp only [W0, Nat.reduceEqDiff, Nat.reduceLT, ↓reduceIte, hl, e0, e3, e6, e7, e8]), (by simp only [W0, Nat.reduceEqDiff, Nat.reduceLT, ↓reduceIte, hl, e0, e3, e6, e7, e8]), (by simp only [W0, Nat.reduceEqDiff, Nat.reduceLT, ↓reduceIte, hl, e0, e3, e6, e7, e8]), (by simp only [W0, Nat.reduceEqDiff, Nat.reduceLT, ↓reduceIte, hl, e0, e3, e6, e7, e8])⟩) ?_
      rintro envg32 _ ⟨rfl, hl, e0, e3, e4, e6, e7⟩
      try simp only [↓WD, W0, evalOp, Nat.reduceEqDiff, Nat.reduceLT, ↓reduceIte, reduceCtorEq, hl, e0, e3, e4, e6, e7]
      rw [AW_drawn, AE_drawnK Ksub.nil (by kernel_rfl)]
      obtain ⟨c33, qc33, wr49⟩ := obind wr49
      have oc33 := idx_str (P := Try.prog) (k := .i64) Try.underlying9 qc33
      obtain ⟨y34, qy34, wr49⟩ := obind wr49
      have oy34 := quo_int (k := .u8) qy34
      obtain ⟨c35, qc35, wr49⟩ := obind wr49
      have oc35 := idx_str (P := Try.prog) (k := .u8) Try.underlying9 qc35
      have oc36 := idx_str (P := Try.prog) (k := .i64) Try.underlying9 qc33
      obtain ⟨y37, qy37, wr49⟩ := obind wr49
      have oy37 := rem_int (k := .u8) qy37
      obtain ⟨c38, qc38, wr49⟩ := obind wr49
      have oc38 := idx_str (P := Try.prog) (k := .u8) Try.underlying9 qc38
      obtain ⟨u39, h40, ob41, S42⟩ := Sep.build (P := Try.prog) sl_28 S28 [.int .u8 c35, .int .u8 c38] (([c35, c38] : List Int).map (cellI .u8)) rfl (by simp [cellI]) (by simp)
      have ob41 : abuildSlice Try.prog 28 2 [(0, .int .u8 c35), (1, .int .u8 c38)] h27 = some (u39, h40) := ob41
      have S44 : Sep h [] h40 [.row u39 5 1 (([c35, c38] : List Int).map (cellI .u8))] := S42
      have oc45 := RO.str (P := Try.prog) Try.underlying28 Try.underlying5 Try.underlying9 (S44.row_ro (i := 0) rfl)
      obtain ⟨s46, qs46, wr49⟩ := obind wr49
      have os46 := cat_str qs46
      refine AE_joinR (fun e h' => h40 = h' ∧ e.length = 26 ∧ e.getD 0 .undef = .str s_ ∧ e.getD 3 .undef = .str s46 ∧ e.getD 6 .undef = .int .i64 (s_.length : Int) ∧ e.getD 7 .undef = .int .i64 s.2) (by
        simp only [↓WE, WA, WL, aop, ofValue, ofCell, isConst, abin, acall1, abuiltin, aun, AV.cells, AV.one, Nat.reduceAdd, Int.reduceLT, Int.reduceLE, ↓WD, W0, evalOp, Nat.reduceEqDiff, Nat.reduceLT, ↓reduceIte, reduceCtorEq, hl, e0, e3, e4, e6, e7, oc33, oy34, oc35, oc36, oy37, oc38, ob41, oc45, os46]
        exact ⟨rfl, (by simp only [List.length_set, hl]), (by simp only [W0, Nat.reduceEqDiff, Nat.reduceLT, ↓reduceIte, hl, e0, e3, e4, e6, e7]), (by simp only [W0, Nat.reduceEqDiff, Nat.reduceLT, ↓reduceIte, hl, e0, e3, e4, e6, e7]), (by simp only [W0, Nat.reduceEqDiff, Nat.reduceLT, ↓reduceIte, hl, e0, e3, e4, e6, e7]), (by simp only [W0, Nat.reduceEqDiff, Nat.reduceLT, ↓reduceIte, hl, e0, e3, e4, e6, e7])⟩) ?_
      rintro envg47 _ ⟨rfl, hl, e0, e3, e6, e7⟩
      try simp only [↓WD, W0, evalOp, Nat.reduceEqDiff, Nat.reduceLT, ↓reduceIte, reduceCtorEq, hl, e0, e3, e6, e7]
      rw [AW_region]
      refine AE_joinR (fun e h' => h40 = h' ∧ e.length = 26 ∧ e.getD 0 .undef = .str s_ ∧ e.getD 3 .undef = .str s46 ∧ e.getD 6 .undef = .int .i64 (s_.length : Int) ∧ e.getD 7 .undef = .int .i64 (IntKind.i64.wrap (s.2 + 1))) (by
        simp only [↓WE, WA, WL, aop, ofValue, ofCell, isConst, abin, acall1, abuiltin, aun, AV.cells, AV.one, Nat.reduceAdd, Int.reduceLT, Int.reduceLE, ↓WD, W0, evalOp, Nat.reduceEqDiff, Nat.reduceLT, ↓reduceIte, reduceCtorEq, hl, e0, e3, e6, e7]
        exact ⟨rfl, (by simp only [List.length_set, hl]), (by simp only [W0, Nat.reduceEqDiff, Nat.reduceLT, ↓reduceIte, hl, e0, e3, e6, e7]), (by simp only [W0, Nat.reduceEqDiff, Nat.reduceLT, ↓reduceIte, hl, e0, e3, e6, e7]), (by simp only [W0, Nat.reduceEqDiff, Nat.reduceLT, ↓reduceIte, hl, e0, e3, e6, e7]), (by simp only [W0, Nat.reduceEqDiff, Nat.reduceLT, ↓reduceIte, hl, e0, e3, e6, e7])⟩) ?_
      rintro envg48 _ ⟨rfl, hl, e0, e3, e6, e7⟩
      try simp only [↓WD, W0, evalOp, Nat.reduceEqDiff, Nat.reduceLT, ↓reduceIte, reduceCtorEq, hl, e0, e3, e6, e7]
      obtain rfl := Option.some.inj wr49
      rw [KP_nil, QL_normal]
      exact ⟨_, rfl, (by simp only [List.length_set, hl]), (by simp only [W0, Nat.reduceEqDiff, Nat.reduceLT, ↓reduceIte, hl, e0, e3, e6, e7]), (by simp only [W0, Nat.reduceEqDiff, Nat.reduceLT, ↓reduceIte, hl, e0, e3, e6, e7]), (by simp only [W0, Nat.reduceEqDiff, Nat.reduceLT, ↓reduceIte, hl, e0, e3, e6, e7]), (by simp only [W0, Nat.reduceEqDiff, Nat.reduceLT, ↓reduceIte, hl, e0, e3, e6, e7]), S44.pick [] (by decide) rfl⟩
    · rw [if_neg c31] at wr49
      try simp only [↓WD, W0, evalOp, Nat.reduceEqDiff, Nat.reduceLT, ↓reduceIte, reduceCtorEq, hl, e0, e3, e6, e7, e8]
      obtain rfl := Option.some.inj wr49
      rw [KP_nil, QL_exit]
      exact ⟨_, rfl, rfl, (by simp only [List.length_set, hl]), (by simp only [W0, Nat.reduceEqDiff, Nat.reduceLT, ↓reduceIte, hl, e0, e3, e6, e7, e8]), S28⟩
  · exact ⟨(by simp only [List.length_set, hl]), (by simp only [W0, Nat.reduceEqDiff, Nat.reduceLT, ↓reduceIte, hl, e0, e3, e6, e7]), (by simp only [W0, Nat.reduceEqDiff, Nat.reduceLT, ↓reduceIte, hl, e0, e3, e6, e7]), (by simp only [W0, Nat.reduceEqDiff, Nat.reduceLT, ↓reduceIte, hl, e0, e3, e6, e7]), (by simp only [W0, Nat.reduceEqDiff, Nat.reduceLT, ↓reduceIte, hl, e0, e3, e6, e7]), S0⟩
  · rintro x envr49 h50 ⟨rfl, hl, e3, S51⟩
    try simp only [↓WD, W0, evalOp, Nat.reduceEqDiff, Nat.reduceLT, ↓reduceIte, reduceCtorEq, hl, e3]
    rw [AW_region]
    refine AE_joinR (fun e h' => h50 = h' ∧ e.length = 26 ∧ e.getD 2 .undef = .str r49) (by
      simp only [↓WE, WA, WL, aop, ofValue, ofCell, isConst, abin, acall1, abuiltin, aun, AV.cells, AV.one, Nat.reduceAdd, Int.reduceLT, Int.reduceLE, ↓WD, W0, evalOp, Nat.reduceEqDiff, Nat.reduceLT, ↓reduceIte, reduceCtorEq, hl, e3]
      exact ⟨rfl, (by simp only [List.length_set, hl]), (by simp only [W0, Nat.reduceEqDiff, Nat.reduceLT, ↓reduceIte, hl, e3])⟩) ?_
    rintro envg52 _ ⟨rfl, hl, e2⟩
    try simp only [↓WD, W0, evalOp, Nat.reduceEqDiff, Nat.reduceLT, ↓reduceIte, reduceCtorEq, hl, e2]
    refine KP_ret (vs := [.str r49]) (by simp only [aresults, aresult, gs, List.length_set, Nat.reduceEqDiff, Nat.reduceLT, ↓reduceIte, hl, e2]) ?_
    obtain rfl := Option.some.inj hF
    exact rfl
end Go.Proofs.YtobhmahlenjheaaM
