/- The abstract machine computes what the plain functions say: printed by lift.py. -/
import Derived.Test.YtikkpmmhejjpaaaDoorFOT
set_option linter.unusedSimpArgs false
set_option linter.unusedVariables false
namespace Go.Proofs.YtikkpmmhejjpaaaDoorM
open Go Go.RowKit
set_option maxRecDepth 100000 in
set_option maxHeartbeats 4000000 in
theorem W_unicode_utf8_decodeRuneInStringSlow {K : PureK} (n21 : K 21 = none) (m : Nat) (hm : NF + 1 ≤ m) (h : AH) (hG : GL h) (s_ : List UInt8) {r : Int × Int} (hF : F_unicode_utf8_decodeRuneInStringSlow s_ = some r) :
    AR (acall Tryd.prog (hooksOf K) (drawnOf Tryd.prog (tabOf K)) m 21 [.str s_] h) (fun v h' => v = .tup [.int .i32 r.1, .int .i64 r.2] ∧ Sep h [] h' []) := by
  obtain ⟨m, rfl⟩ : ∃ k, m = k + 1 := ⟨m - 1, by omega⟩
  refine AR_call (hooksOf_none n21) Tryd.func21 rfl _ _ fun env hl he => ?_
  have e0 := he 0
  simp only [List.getD_cons_zero, List.getD_cons_succ] at e0
  simp only [Tryd.f21] at hl ⊢
  simp only [List.length_cons, List.length_nil, Nat.reduceAdd, Nat.reduceSub] at hl
  clear he
  have S0 : Sep h [] h [] := Sep.nil h
  rw [F_unicode_utf8_decodeRuneInStringSlow] at hF
  try simp only [↓WD, W0, evalOp, Nat.reduceEqDiff, Nat.reduceLT, ↓reduceIte, reduceCtorEq, hl, e0]
  rw [AW_region]
  refine AE_joinR (fun e h' => h = h' ∧ e.length = 117 ∧ e.getD 0 .undef = .str s_) (by
    simp only [↓WE, WA, WL, aop, ofValue, ofCell, isConst, abin, acall1, abuiltin, aun, AV.cells, AV.one, Nat.reduceAdd, Int.reduceLT, Int.reduceLE, ↓WD, W0, evalOp, Nat.reduceEqDiff, Nat.reduceLT, ↓reduceIte, reduceCtorEq, hl, e0]
    exact ⟨rfl, (by simp only [List.length_set, hl]), (by simp only [W0, Nat.reduceEqDiff, Nat.reduceLT, ↓reduceIte, hl, e0])⟩) ?_
  rintro envg1 _ ⟨rfl, hl, e0⟩
  try simp only [↓WD, W0, evalOp, Nat.reduceEqDiff, Nat.reduceLT, ↓reduceIte, reduceCtorEq, hl, e0]
  rw [AW_region]
  have ol2 := fun g : AH => alen_str (P := Tryd.prog) (h := g) (l := s_) Tryd.underlying9
  refine AE_joinR (fun e h' => h = h' ∧ e.length = 117 ∧ e.getD 0 .undef = .str s_ ∧ e.getD 4 .undef = .int .i64 (s_.length : Int)) (by
    simp only [↓WE, WA, WL, aop, ofValue, ofCell, isConst, abin, acall1, abuiltin, aun, AV.cells, AV.one, Nat.reduceAdd, Int.reduceLT, Int.reduceLE, ↓WD, W0, evalOp, Nat.reduceEqDiff, Nat.reduceLT, ↓reduceIte, reduceCtorEq, hl, e0, ol2]
    exact ⟨rfl, (by simp only [List.length_set, hl]), (by simp only [W0, Nat.reduceEqDiff, Nat.reduceLT, ↓reduceIte, hl, e0]), (by simp only [W0, Nat.reduceEqDiff, Nat.reduceLT, ↓reduceIte, hl, e0])⟩) ?_
  rintro envg3 _ ⟨rfl, hl, e0, e4⟩
  try simp only [↓WD, W0, evalOp, Nat.reduceEqDiff, Nat.reduceLT, ↓reduceIte, reduceCtorEq, hl, e0, e4]
  rw [AW_region]
  refine AE_joinR (fun e h' => h = h' ∧ e.length = 117 ∧ e.getD 0 .undef = .str s_ ∧ e.getD 4 .undef = .int .i64 (s_.length : Int) ∧ e.getD 16 .undef = .bool (decide ((s_.length : Int) < 1))) (by
    simp only [↓WE, WA, WL, aop, ofValue, ofCell, isConst, abin, acall1, abuiltin, aun, AV.cells, AV.one, Nat.reduceAdd, Int.reduceLT, Int.reduceLE, ↓WD, W0, evalOp, Nat.reduceEqDiff, Nat.reduceLT, ↓reduceIte, reduceCtorEq, hl, e0, e4]
    exact ⟨rfl, (by simp only [List.length_set, hl]), (by simp only [W0, Nat.reduceEqDiff, Nat.reduceLT, ↓reduceIte, hl, e0, e4]), (by simp only [W0, Nat.reduceEqDiff, Nat.reduceLT, ↓reduceIte, hl, e0, e4]), (by simp only [W0, Nat.reduceEqDiff, Nat.reduceLT, ↓reduceIte, hl, e0, e4])⟩) ?_
  rintro envg4 _ ⟨rfl, hl, e0, e4, e16⟩
  try simp only [↓WD, W0, evalOp, Nat.reduceEqDiff, Nat.reduceLT, ↓reduceIte, reduceCtorEq, hl, e0, e4, e16]
  refine CondK_dec (fun c7 => ?_) (fun c7 => ?_)
  · rw [if_pos c7] at hF
    try simp only [↓WD, W0, evalOp, Nat.reduceEqDiff, Nat.reduceLT, ↓reduceIte, reduceCtorEq, hl, e0, e4, e16]
    rw [AW_region]
    refine AE_joinR (fun e h' => h = h' ∧ e.length = 117 ∧ e.getD 2 .undef = .int .i32 65533 ∧ e.getD 3 .undef = .int .i64 0) (by
      simp only [↓WE, WA, WL, aop, ofValue, ofCell, isConst, abin, acall1, abuiltin, aun, AV.cells, AV.one, Nat.reduceAdd, Int.reduceLT, Int.reduceLE, ↓WD, W0, evalOp, Nat.reduceEqDiff, Nat.reduceLT, ↓reduceIte, reduceCtorEq, hl, e0, e4, e16]
      exact ⟨rfl, (by simp only [List.length_set, hl]), (by simp only [W0, Nat.reduceEqDiff, Nat.reduceLT, ↓reduceIte, hl, e0, e4, e16]), (by simp only [W0, Nat.reduceEqDiff, Nat.reduceLT, ↓reduceIte, hl, e0, e4, e16])⟩) ?_
    rintro envg8 _ ⟨rfl, hl, e2, e3⟩
    try simp only [↓WD, W0, evalOp, Nat.reduceEqDiff, Nat.reduceLT, ↓reduceIte, reduceCtorEq, hl, e2, e3]
    refine KP_ret (vs := [.int .i32 65533, .int .i64 0]) (by simp only [aresults, aresult, gs, List.length_set, Nat.reduceEqDiff, Nat.reduceLT, ↓reduceIte, hl, e2, e3]) ?_
    obtain rfl := Option.some.inj hF
    exact ⟨rfl, S0⟩
  · rw [if_neg c7] at hF
    try simp only [↓WD, W0, evalOp, Nat.reduceEqDiff, Nat.reduceLT, ↓reduceIte, reduceCtorEq, hl, e0, e4, e16]
    rw [AW_region]
    obtain ⟨c9, qc9, hF⟩ := obind hF
    have oc9 := idx_str (P := Tryd.prog) (k := .i64) Tryd.underlying9 qc9
    refine AE_joinR (fun e h' => h = h' ∧ e.length = 117 ∧ e.getD 0 .undef = .str s_ ∧ e.getD 4 .undef = .int .i64 (s_.length : Int) ∧ e.getD 5 .undef = .int .u8 c9) (by
      simp only [↓WE, WA, WL, aop, ofValue, ofCell, isConst, abin, acall1, abuiltin, aun, AV.cells, AV.one, Nat.reduceAdd, Int.reduceLT, Int.reduceLE, ↓WD, W0, evalOp, Nat.reduceEqDiff, Nat.reduceLT, ↓reduceIte, reduceCtorEq, hl, e0, e4, e16, oc9]
      exact ⟨rfl, (by simp only [List.length_set, hl]), (by simp only [W0, Nat.reduceEqDiff, Nat.reduceLT, ↓reduceIte, hl, e0, e4, e16]), (by simp only [W0, Nat.reduceEqDiff, Nat.reduceLT, ↓reduceIte, hl, e0, e4, e16]), (by simp only [W0, Nat.reduceEqDiff, Nat.reduceLT, ↓reduceIte, hl, e0, e4, e16])⟩) ?_
    rintro envg10 _ ⟨rfl, hl, e0, e4, e5⟩
    try simp only [↓WD, W0, evalOp, Nat.reduceEqDiff, Nat.reduceLT, ↓reduceIte, reduceCtorEq, hl, e0, e4, e5]
    rw [AW_region]
    obtain ⟨x11, qx11, hF⟩ := obind hF
    have oi12 := GV.addr (P := Tryd.prog) 0 Tryd.underlying56 sz_5 gvl_0 qx11 .u8
    have ol13 := GV.ld (P := Tryd.prog) (gl_0 (GL.keep0 S0 hG)) gvz_0 qx11 (t := 5) (o := 0) (v := .int .u8 x11) (by omega) (by simp only [apart, ag_5, sz_5]; rfl)
    simp only [Nat.add_zero] at ol13
    refine AE_joinR (fun e h' => h = h' ∧ e.length = 117 ∧ e.getD 0 .undef = .str s_ ∧ e.getD 4 .undef = .int .i64 (s_.length : Int) ∧ e.getD 5 .undef = .int .u8 c9 ∧ e.getD 6 .undef = .int .u8 x11) (by
      simp only [↓WE, WA, WL, aop, ofValue, ofCell, isConst, abin, acall1, abuiltin, aun, AV.cells, AV.one, Nat.reduceAdd, Int.reduceLT, Int.reduceLE, ↓WD, W0, evalOp, Nat.reduceEqDiff, Nat.reduceLT, ↓reduceIte, reduceCtorEq, hl, e0, e4, e5, oi12, ol13]
      exact ⟨rfl, (by simp only [List.length_set, hl]), (by simp only [W0, Nat.reduceEqDiff, Nat.reduceLT, ↓reduceIte, hl, e0, e4, e5]), (by simp only [W0, Nat.reduceEqDiff, Nat.reduceLT, ↓reduceIte, hl, e0, e4, e5]), (by simp only [W0, Nat.reduceEqDiff, Nat.reduceLT, ↓reduceIte, hl, e0, e4, e5]), (by simp only [W0, Nat.reduceEqDiff, Nat.reduceLT, ↓reduceIte, hl, e0, e4, e5])⟩) ?_
    rintro envg14 _ ⟨rfl, hl, e0, e4, e5, e6⟩
    try simp only [↓WD, W0, evalOp, Nat.reduceEqDiff, Nat.reduceLT, ↓reduceIte, reduceCtorEq, hl, e0, e4, e5, e6]
    rw [AW_region]
    refine AE_joinR (fun e h' => h = h' ∧ e.length = 117 ∧ e.getD 0 .undef = .str s_ ∧ e.getD 4 .undef = .int .i64 (s_.length : Int) ∧ e.getD 5 .undef = .int .u8 c9 ∧ e.getD 6 .undef = .int .u8 x11 ∧ e.getD 23 .undef = .bool (decide (x11 ≥ 240))) (by
      simp only [↓WE, WA, WL, aop, ofValue, ofCell, isConst, abin, acall1, abuiltin, aun, AV.cells, AV.one, Nat.reduceAdd, Int.reduceLT, Int.reduceLE, ↓WD, W0, evalOp, Nat.reduceEqDiff, Nat.reduceLT, ↓reduceIte, reduceCtorEq, hl, e0, e4, e5, e6]
      exact ⟨rfl, (by simp only [List.length_set, hl]), (by simp only [W0, Nat.reduceEqDiff, Nat.reduceLT, ↓reduceIte, hl, e0, e4, e5, e6]), (by simp only [W0, Nat.reduceEqDiff, Nat.reduceLT, ↓reduceIte, hl, e0, e4, e5, e6]), (by simp only [W0, Nat.reduceEqDiff, Nat.reduceLT, ↓reduceIte, hl, e0, e4, e5, e6]), (by simp only [W0, Nat.reduceEqDiff, Nat.reduceLT, ↓reduceIte, hl, e0, e4, e5, e6]), (by simp only [W0, Nat.reduceEqDiff, Nat.reduceLT, ↓reduceIte, hl, e0, e4, e5, e6])⟩) ?_
    rintro envg15 _ ⟨rfl, hl, e0, e4, e5, e6, e23⟩
    try simp only [↓WD, W0, evalOp, Nat.reduceEqDiff, Nat.reduceLT, ↓reduceIte, reduceCtorEq, hl, e0, e4, e5, e6, e23]
    refine CondK_dec (fun c24 => ?_) (fun c24 => ?_)
    · rw [if_pos c24] at hF
      try simp only [↓WD, W0, evalOp, Nat.reduceEqDiff, Nat.reduceLT, ↓reduceIte, reduceCtorEq, hl, e0, e4, e5, e6, e23]
      rw [AW_region]
      have oc25 := fun g : AH => aconv_int (P := Tryd.prog) (h := g) (n := x11) (k' := .u8) Tryd.underlying5 Tryd.underlying21
      obtain ⟨y26, qy26, hF⟩ := obind hF
      have oy26 := shl_int (k := .i32) qy26
      obtain ⟨y27, qy27, hF⟩ := obind hF
      have oy27 := shr_int (k := .i32) qy27
      refine AE_joinR (fun e h' => h = h' ∧ e.length = 117 ∧ e.getD 0 .undef = .str s_ ∧ e.getD 7 .undef = .int .i32 y27) (by
        simp only [↓WE, WA, WL, aop, ofValue, ofCell, isConst, abin, acall1, abuiltin, aun, AV.cells, AV.one, Nat.reduceAdd, Int.reduceLT, Int.reduceLE, ↓WD, W0, evalOp, Nat.reduceEqDiff, Nat.reduceLT, ↓reduceIte, reduceCtorEq, hl, e0, e4, e5, e6, e23, oc25, oy26, oy27]
        exact ⟨rfl, (by simp only [List.length_set, hl]), (by simp only [W0, Nat.reduceEqDiff, Nat.reduceLT, ↓reduceIte, hl, e0, e4, e5, e6, e23]), (by simp only [W0, Nat.reduceEqDiff, Nat.reduceLT, ↓reduceIte, hl, e0, e4, e5, e6, e23])⟩) ?_
      rintro envg28 _ ⟨rfl, hl, e0, e7⟩
      try simp only [↓WD, W0, evalOp, Nat.reduceEqDiff, Nat.reduceLT, ↓reduceIte, reduceCtorEq, hl, e0, e7]
      rw [AW_region]
      have oc29 := idx_str (P := Tryd.prog) (k := .i64) Tryd.underlying9 qc9
      have oc30 := fun g : AH => aconv_int (P := Tryd.prog) (h := g) (n := c9) (k' := .u8) Tryd.underlying5 Tryd.underlying21
      refine AE_joinR (fun e h' => h = h' ∧ e.length = 117 ∧ e.getD 2 .undef = .int .i32 (orI .i32 (andNotI .i32 (IntKind.i32.wrap c9) y27) (andI .i32 65533 y27)) ∧ e.getD 3 .undef = .int .i64 1) (by
        simp only [↓WE, WA, WL, aop, ofValue, ofCell, isConst, abin, acall1, abuiltin, aun, AV.cells, AV.one, Nat.reduceAdd, Int.reduceLT, Int.reduceLE, ↓WD, W0, evalOp, Nat.reduceEqDiff, Nat.reduceLT, ↓reduceIte, reduceCtorEq, hl, e0, e7, oc29, oc30]
        exact ⟨rfl, (by simp only [List.length_set, hl]), (by simp only [W0, Nat.reduceEqDiff, Nat.reduceLT, ↓reduceIte, hl, e0, e7]), (by simp only [W0, Nat.reduceEqDiff, Nat.reduceLT, ↓reduceIte, hl, e0, e7])⟩) ?_
      rintro envg31 _ ⟨rfl, hl, e2, e3⟩
      try simp only [↓WD, W0, evalOp, Nat.reduceEqDiff, Nat.reduceLT, ↓reduceIte, reduceCtorEq, hl, e2, e3]
      refine KP_ret (vs := [.int .i32 (orI .i32 (andNotI .i32 (IntKind.i32.wrap c9) y27) (andI .i32 65533 y27)), .int .i64 1]) (by simp only [aresults, aresult, gs, List.length_set, Nat.reduceEqDiff, Nat.reduceLT, ↓reduceIte, hl, e2, e3]) ?_
      obtain rfl := Option.some.inj hF
      exact ⟨rfl, S0⟩
    · rw [if_neg c24] at hF
      try simp only [↓WD, W0, evalOp, Nat.reduceEqDiff, Nat.reduceLT, ↓reduceIte, reduceCtorEq, hl, e0, e4, e5, e6, e23]
      rw [AW_region]
      have oc32 := fun g : AH => aconv_int (P := Tryd.prog) (h := g) (n := andI .u8 x11 7) (k' := .u8) Tryd.underlying5 Tryd.underlying3
      refine AE_joinR (fun e h' => h = h' ∧ e.length = 117 ∧ e.getD 0 .undef = .str s_ ∧ e.getD 4 .undef = .int .i64 (s_.length : Int) ∧ e.getD 5 .undef = .int .u8 c9 ∧ e.getD 6 .undef = .int .u8 x11 ∧ e.getD 8 .undef = .int .i64 (IntKind.i64.wrap (andI .u8 x11 7))) (by
        simp only [↓WE, WA, WL, aop, ofValue, ofCell, isConst, abin, acall1, abuiltin, aun, AV.cells, AV.one, Nat.reduceAdd, Int.reduceLT, Int.reduceLE, ↓WD, W0, evalOp, Nat.reduceEqDiff, Nat.reduceLT, ↓reduceIte, reduceCtorEq, hl, e0, e4, e5, e6, e23, oc32]
        exact ⟨rfl, (by simp only [List.length_set, hl]), (by simp only [W0, Nat.reduceEqDiff, Nat.reduceLT, ↓reduceIte, hl, e0, e4, e5, e6, e23]), (by simp only [W0, Nat.reduceEqDiff, Nat.reduceLT, ↓reduceIte, hl, e0, e4, e5, e6, e23]), (by simp only [W0, Nat.reduceEqDiff, Nat.reduceLT, ↓reduceIte, hl, e0, e4, e5, e6, e23]), (by simp only [W0, Nat.reduceEqDiff, Nat.reduceLT, ↓reduceIte, hl, e0, e4, e5, e6, e23]), (by simp only [W0, Nat.reduceEqDiff, Nat.reduceLT, ↓reduceIte, hl, e0, e4, e5, e6, e23])⟩) ?_
      rintro envg33 _ ⟨rfl, hl, e0, e4, e5, e6, e8⟩
      try simp only [↓WD, W0, evalOp, Nat.reduceEqDiff, Nat.reduceLT, ↓reduceIte, reduceCtorEq, hl, e0, e4, e5, e6, e8]
      rw [AW_region]
      obtain ⟨y34, qy34, hF⟩ := obind hF
      have oy34 := shr_int (k := .u8) qy34
      obtain ⟨x35, qx35, hF⟩ := obind hF
      have oi36 := GV.addr (P := Tryd.prog) 1 Tryd.underlying59 sz_58 gvl_1 qx35 .u8
      have ol37 := GV.ld (P := Tryd.prog) (gl_1 (GL.keep0 S0 hG)) gvz_1 qx35 (t := 58) (o := 0) (v := .agg [.int .u8 x35.xlo, .int .u8 x35.xhi]) (by omega) (by simp only [apart, ag_58, sz_58]; rfl)
      simp only [Nat.add_zero] at ol37
      obtain ⟨i38, h39, oa40, S41⟩ := S0.alloc 58 [.int .u8 0, .int .u8 0]
      have S43 : Sep h [] h39 [.blk i38 [.int .u8 0, .int .u8 0] 58] := S41
      obtain ⟨h44, os45, S46⟩ := S43.store (P := Tryd.prog) 0 rfl (t := 58) (off := 0) (v := .agg [.int .u8 x35.xlo, .int .u8 x35.xhi]) (c' := [.int .u8 x35.xlo, .int .u8 x35.xhi]) rfl sz_58 rfl (by simp) rfl
      have S47 : Sep h [] h44 [.blk i38 [.int .u8 x35.xlo, .int .u8 x35.xhi] 58] := S46
      refine AE_joinR (fun e h' => h44 = h' ∧ e.length = 117 ∧ e.getD 0 .undef = .str s_ ∧ e.getD 4 .undef = .int .i64 (s_.length : Int) ∧ e.getD 5 .undef = .int .u8 c9 ∧ e.getD 8 .undef = .int .i64 (IntKind.i64.wrap (andI .u8 x11 7)) ∧ e.getD 9 .undef = .ptr i38 0) (by
        simp only [↓WE, WA, WL, aop, ofValue, ofCell, isConst, abin, acall1, abuiltin, aun, AV.cells, AV.one, Nat.reduceAdd, Int.reduceLT, Int.reduceLE, ↓WD, W0, evalOp, Nat.reduceEqDiff, Nat.reduceLT, ↓reduceIte, reduceCtorEq, hl, e0, e4, e5, e6, e8, oy34, oi36, ol37, zero_58, oa40, os45]
        exact ⟨rfl, (by simp only [List.length_set, hl]), (by simp only [W0, Nat.reduceEqDiff, Nat.reduceLT, ↓reduceIte, hl, e0, e4, e5, e6, e8]), (by simp only [W0, Nat.reduceEqDiff, Nat.reduceLT, ↓reduceIte, hl, e0, e4, e5, e6, e8]), (by simp only [W0, Nat.reduceEqDiff, Nat.reduceLT, ↓reduceIte, hl, e0, e4, e5, e6, e8]), (by simp only [W0, Nat.reduceEqDiff, Nat.reduceLT, ↓reduceIte, hl, e0, e4, e5, e6, e8]), (by simp only [W0, Nat.reduceEqDiff, Nat.reduceLT, ↓reduceIte, hl, e0, e4, e5, e6, e8])⟩) ?_
      rintro envg48 _ ⟨rfl, hl, e0, e4, e5, e8, e9⟩
      try simp only [↓WD, W0, evalOp, Nat.reduceEqDiff, Nat.reduceLT, ↓reduceIte, reduceCtorEq, hl, e0, e4, e5, e8, e9]
      rw [AW_region]
      refine AE_joinR (fun e h' => h44 = h' ∧ e.length = 117 ∧ e.getD 0 .undef = .str s_ ∧ e.getD 5 .undef = .int .u8 c9 ∧ e.getD 8 .undef = .int .i64 (IntKind.i64.wrap (andI .u8 x11 7)) ∧ e.getD 9 .undef = .ptr i38 0 ∧ e.getD 45 .undef = .bool (decide ((s_.length : Int) < (IntKind.i64.wrap (andI .u8 x11 7))))) (by
        simp only [↓WE, WA, WL, aop, ofValue, ofCell, isConst, abin, acall1, abuiltin, aun, AV.cells, AV.one, Nat.reduceAdd, Int.reduceLT, Int.reduceLE, ↓WD, W0, evalOp, Nat.reduceEqDiff, Nat.reduceLT, ↓reduceIte, reduceCtorEq, hl, e0, e4, e5, e8, e9]
        exact ⟨rfl, (by simp only [List.length_set, hl]), (by simp only [W0, Nat.reduceEqDiff, Nat.reduceLT, ↓reduceIte, hl, e0, e4, e5, e8, e9]), (by simp only [W0, Nat.reduceEqDiff, Nat.reduceLT, ↓reduceIte, hl, e0, e4, e5, e8, e9]), (by simp only [W0, Nat.reduceEqDiff, Nat.reduceLT, ↓reduceIte, hl, e0, e4, e5, e8, e9]), (by simp only [W0, Nat.reduceEqDiff, Nat.reduceLT, ↓reduceIte, hl, e0, e4, e5, e8, e9]), (by simp only [W0, Nat.reduceEqDiff, Nat.reduceLT, ↓reduceIte, hl, e0, e4, e5, e8, e9])⟩) ?_
      rintro envg49 _ ⟨rfl, hl, e0, e5, e8, e9, e45⟩
      try simp only [↓WD, W0, evalOp, Nat.reduceEqDiff, Nat.reduceLT, ↓reduceIte, reduceCtorEq, hl, e0, e5, e8, e9, e45]
      refine CondK_dec (fun c52 => ?_) (fun c52 => ?_)
      · rw [if_pos c52] at hF
        try simp only [↓WD, W0, evalOp, Nat.reduceEqDiff, Nat.reduceLT, ↓reduceIte, reduceCtorEq, hl, e0, e5, e8, e9, e45]
        rw [AW_region]
        refine AE_joinR (fun e h' => h44 = h' ∧ e.length = 117 ∧ e.getD 2 .undef = .int .i32 65533 ∧ e.getD 3 .undef = .int .i64 1) (by
          simp only [↓WE, WA, WL, aop, ofValue, ofCell, isConst, abin, acall1, abuiltin, aun, AV.cells, AV.one, Nat.reduceAdd, Int.reduceLT, Int.reduceLE, ↓WD, W0, evalOp, Nat.reduceEqDiff, Nat.reduceLT, ↓reduceIte, reduceCtorEq, hl, e0, e5, e8, e9, e45]
          exact ⟨rfl, (by simp only [List.length_set, hl]), (by simp only [W0, Nat.reduceEqDiff, Nat.reduceLT, ↓reduceIte, hl, e0, e5, e8, e9, e45]), (by simp only [W0, Nat.reduceEqDiff, Nat.reduceLT, ↓reduceIte, hl, e0, e5, e8, e9, e45])⟩) ?_
        rintro envg53 _ ⟨rfl, hl, e2, e3⟩
        try simp only [↓WD, W0, evalOp, Nat.reduceEqDiff, Nat.reduceLT, ↓reduceIte, reduceCtorEq, hl, e2, e3]
        refine KP_ret (vs := [.int .i32 65533, .int .i64 1]) (by simp only [aresults, aresult, gs, List.length_set, Nat.reduceEqDiff, Nat.reduceLT, ↓reduceIte, hl, e2, e3]) ?_
        obtain rfl := Option.some.inj hF
        exact ⟨rfl, S47.pick [] (by decide) rfl⟩
      · rw [if_neg c52] at hF
        try simp only [↓WD, W0, evalOp, Nat.reduceEqDiff, Nat.reduceLT, ↓reduceIte, reduceCtorEq, hl, e0, e5, e8, e9, e45]
        rw [AW_region]
        obtain ⟨c54, qc54, hF⟩ := obind hF
        have oc54 := idx_str (P := Tryd.prog) (k := .i64) Tryd.underlying9 qc54
        refine AE_joinR (fun e h' => h44 = h' ∧ e.length = 117 ∧ e.getD 0 .undef = .str s_ ∧ e.getD 5 .undef = .int .u8 c9 ∧ e.getD 8 .undef = .int .i64 (IntKind.i64.wrap (andI .u8 x11 7)) ∧ e.getD 9 .undef = .ptr i38 0 ∧ e.getD 10 .undef = .int .u8 c54) (by
          simp only [↓WE, WA, WL, aop, ofValue, ofCell, isConst, abin, acall1, abuiltin, aun, AV.cells, AV.one, Nat.reduceAdd, Int.reduceLT, Int.reduceLE, ↓WD, W0, evalOp, Nat.reduceEqDiff, Nat.reduceLT, ↓reduceIte, reduceCtorEq, hl, e0, e5, e8, e9, e45, oc54]
          exact ⟨rfl, (by simp only [List.length_set, hl]), (by simp only [W0, Nat.reduceEqDiff, Nat.reduceLT, ↓reduceIte, hl, e0, e5, e8, e9, e45]), (by simp only [W0, Nat.reduceEqDiff, Nat.reduceLT, ↓reduceIte, hl, e0, e5, e8, e9, e45]), (by simp only [W0, Nat.reduceEqDiff, Nat.reduceLT, ↓reduceIte, hl, e0, e5, e8, e9, e45]), (by simp only [W0, Nat.reduceEqDiff, Nat.reduceLT, ↓reduceIte, hl, e0, e5, e8, e9, e45]), (by simp only [W0, Nat.reduceEqDiff, Nat.reduceLT, ↓reduceIte, hl, e0, e5, e8, e9, e45])⟩) ?_
        rintro envg55 _ ⟨rfl, hl, e0, e5, e8, e9, e10⟩
        try simp only [↓WD, W0, evalOp, Nat.reduceEqDiff, Nat.reduceLT, ↓reduceIte, reduceCtorEq, hl, e0, e5, e8, e9, e10]
        rw [AW_region]
        obtain ⟨j61, qj61, hF⟩ := obind hF
        refine AE_joinR (fun e h' => e.length = 117 ∧ e.getD 0 .undef = .str s_ ∧ e.getD 5 .undef = .int .u8 c9 ∧ e.getD 8 .undef = .int .i64 (IntKind.i64.wrap (andI .u8 x11 7)) ∧ e.getD 10 .undef = .int .u8 c54 ∧ e.getD 57 .undef = .bool j61 ∧ Sep h [] h' []) ?_ ?_
        · have ol56 := S47.load (P := Tryd.prog) 0 rfl (t := 5) (off := 0) (v := .int .u8 x35.xlo) (by simp only [apart, ag_5, sz_5]; rfl)
          simp only [↓WE, WA, WL, aop, ofValue, ofCell, isConst, abin, acall1, abuiltin, aun, AV.cells, AV.one, Nat.reduceAdd, Int.reduceLT, Int.reduceLE, ↓WD, W0, evalOp, Nat.reduceEqDiff, Nat.reduceLT, ↓reduceIte, reduceCtorEq, hl, e0, e5, e8, e9, e10, fa_58_0, ol56]
          refine GuardW_dec (fun c57 => ?_) (fun c57 => ?_)
          · rw [if_pos c57] at qj61
            have d58 : (decide (c54 < x35.xlo)) = true := decide_eq_true c57
            simp only [↓WE, WA, WL, aop, ofValue, ofCell, isConst, abin, acall1, abuiltin, aun, AV.cells, AV.one, Nat.reduceAdd, Int.reduceLT, Int.reduceLE, ↓WD, W0, evalOp, Nat.reduceEqDiff, Nat.reduceLT, ↓reduceIte, reduceCtorEq, hl, e0, e5, e8, e9, e10, fa_58_0, ol56, d58]
            obtain rfl := Option.some.inj qj61
            exact ⟨(by simp only [List.length_set, hl]), (by simp only [W0, Nat.reduceEqDiff, Nat.reduceLT, ↓reduceIte, hl, e0, e5, e8, e9, e10]), (by simp only [W0, Nat.reduceEqDiff, Nat.reduceLT, ↓reduceIte, hl, e0, e5, e8, e9, e10]), (by simp only [W0, Nat.reduceEqDiff, Nat.reduceLT, ↓reduceIte, hl, e0, e5, e8, e9, e10]), (by simp only [W0, Nat.reduceEqDiff, Nat.reduceLT, ↓reduceIte, hl, e0, e5, e8, e9, e10]), (by simp only [W0, Nat.reduceEqDiff, Nat.reduceLT, ↓reduceIte, hl, e0, e5, e8, e9, e10]), S47.pick [] (by decide) rfl⟩
          · rw [if_neg c57] at qj61
            have d59 : (decide (c54 < x35.xlo)) = false := decide_eq_false c57
            have ol60 := S47.load (P := Tryd.prog) 0 rfl (t := 5) (off := 1) (v := .int .u8 x35.xhi) (by simp only [apart, ag_5, sz_5]; rfl)
            simp only [↓WE, WA, WL, aop, ofValue, ofCell, isConst, abin, acall1, abuiltin, aun, AV.cells, AV.one, Nat.reduceAdd, Int.reduceLT, Int.reduceLE, ↓WD, W0, evalOp, Nat.reduceEqDiff, Nat.reduceLT, ↓reduceIte, reduceCtorEq, hl, e0, e5, e8, e9, e10, fa_58_0, ol56, fa_58_1, ol60, d59]
            obtain rfl := Option.some.inj qj61
            exact ⟨(by simp only [List.length_set, hl]), (by simp only [W0, Nat.reduceEqDiff, Nat.reduceLT, ↓reduceIte, hl, e0, e5, e8, e9, e10]), (by simp only [W0, Nat.reduceEqDiff, Nat.reduceLT, ↓reduceIte, hl, e0, e5, e8, e9, e10]), (by simp only [W0, Nat.reduceEqDiff, Nat.reduceLT, ↓reduceIte, hl, e0, e5, e8, e9, e10]), (by simp only [W0, Nat.reduceEqDiff, Nat.reduceLT, ↓reduceIte, hl, e0, e5, e8, e9, e10]), (by simp only [W0, Nat.reduceEqDiff, Nat.reduceLT, ↓reduceIte, hl, e0, e5, e8, e9, e10]), S47.pick [] (by decide) rfl⟩
        · rintro envj61 h63 ⟨hl, e0, e5, e8, e10, e57, S62⟩
          try simp only [↓WD, W0, evalOp, Nat.reduceEqDiff, Nat.reduceLT, ↓reduceIte, reduceCtorEq, hl, e0, e5, e8, e10, e57]
          refine CondK_boo (fun c66 => ?_) (fun c66 => ?_)
          · rw [if_pos c66] at hF
            try simp only [↓WD, W0, evalOp, Nat.reduceEqDiff, Nat.reduceLT, ↓reduceIte, reduceCtorEq, hl, e0, e5, e8, e10, e57]
            rw [AW_region]
            refine AE_joinR (fun e h' => h63 = h' ∧ e.length = 117 ∧ e.getD 2 .undef = .int .i32 65533 ∧ e.getD 3 .undef = .int .i64 1) (by
              simp only [↓WE, WA, WL, aop, ofValue, ofCell, isConst, abin, acall1, abuiltin, aun, AV.cells, AV.one, Nat.reduceAdd, Int.reduceLT, Int.reduceLE, ↓WD, W0, evalOp, Nat.reduceEqDiff, Nat.reduceLT, ↓reduceIte, reduceCtorEq, hl, e0, e5, e8, e10, e57]
              exact ⟨rfl, (by simp only [List.length_set, hl]), (by simp only [W0, Nat.reduceEqDiff, Nat.reduceLT, ↓reduceIte, hl, e0, e5, e8, e10, e57]), (by simp only [W0, Nat.reduceEqDiff, Nat.reduceLT, ↓reduceIte, hl, e0, e5, e8, e10, e57])⟩) ?_
            rintro envg67 _ ⟨rfl, hl, e2, e3⟩
            try simp only [↓WD, W0, evalOp, Nat.reduceEqDiff, Nat.reduceLT, ↓reduceIte, reduceCtorEq, hl, e2, e3]
            refine KP_ret (vs := [.int .i32 65533, .int .i64 1]) (by simp only [aresults, aresult, gs, List.length_set, Nat.reduceEqDiff, Nat.reduceLT, ↓reduceIte, hl, e2, e3]) ?_
            obtain rfl := Option.some.inj hF
            exact ⟨rfl, S62⟩
          · rw [if_neg (nf c66)] at hF
            try simp only [↓WD, W0, evalOp, Nat.reduceEqDiff, Nat.reduceLT, ↓reduceIte, reduceCtorEq, hl, e0, e5, e8, e10, e57]
            rw [AW_region]
            refine AE_joinR (fun e h' => h63 = h' ∧ e.length = 117 ∧ e.getD 0 .undef = .str s_ ∧ e.getD 5 .undef = .int .u8 c9 ∧ e.getD 8 .undef = .int .i64 (IntKind.i64.wrap (andI .u8 x11 7)) ∧ e.getD 10 .undef = .int .u8 c54 ∧ e.getD 59 .undef = .bool (decide ((IntKind.i64.wrap (andI .u8 x11 7)) ≤ 2))) (by
              simp only [↓WE, WA, WL, aop, ofValue, ofCell, isConst, abin, acall1, abuiltin, aun, AV.cells, AV.one, Nat.reduceAdd, Int.reduceLT, Int.reduceLE, ↓WD, W0, evalOp, Nat.reduceEqDiff, Nat.reduceLT, ↓reduceIte, reduceCtorEq, hl, e0, e5, e8, e10, e57]
              exact ⟨rfl, (by simp only [List.length_set, hl]), (by simp only [W0, Nat.reduceEqDiff, Nat.reduceLT, ↓reduceIte, hl, e0, e5, e8, e10, e57]), (by simp only [W0, Nat.reduceEqDiff, Nat.reduceLT, ↓reduceIte, hl, e0, e5, e8, e10, e57]), (by simp only [W0, Nat.reduceEqDiff, Nat.reduceLT, ↓reduceIte, hl, e0, e5, e8, e10, e57]), (by simp only [W0, Nat.reduceEqDiff, Nat.reduceLT, ↓reduceIte, hl, e0, e5, e8, e10, e57]), (by simp only [W0, Nat.reduceEqDiff, Nat.reduceLT, ↓reduceIte, hl, e0, e5, e8, e10, e57])⟩) ?_
            rintro envg68 _ ⟨rfl, hl, e0, e5, e8, e10, e59⟩
            try simp only [↓WD, W0, evalOp, Nat.reduceEqDiff, Nat.reduceLT, ↓reduceIte, reduceCtorEq, hl, e0, e5, e8, e10, e59]
            refine CondK_dec (fun c74 => ?_) (fun c74 => ?_)
            · rw [if_pos c74] at hF
              try simp only [↓WD, W0, evalOp, Nat.reduceEqDiff, Nat.reduceLT, ↓reduceIte, reduceCtorEq, hl, e0, e5, e8, e10, e59]
              rw [AW_region]
              have oc75 := fun g : AH => aconv_int (P := Tryd.prog) (h := g) (n := andI .u8 c9 31) (k' := .u8) Tryd.underlying5 Tryd.underlying21
              obtain ⟨y76, qy76, hF⟩ := obind hF
              have oy76 := shl_int (k := .i32) qy76
              have oc77 := fun g : AH => aconv_int (P := Tryd.prog) (h := g) (n := andI .u8 c54 63) (k' := .u8) Tryd.underlying5 Tryd.underlying21
              refine AE_joinR (fun e h' => h63 = h' ∧ e.length = 117 ∧ e.getD 2 .undef = .int .i32 (orI .i32 y76 (IntKind.i32.wrap (andI .u8 c54 63))) ∧ e.getD 3 .undef = .int .i64 2) (by
                simp only [↓WE, WA, WL, aop, ofValue, ofCell, isConst, abin, acall1, abuiltin, aun, AV.cells, AV.one, Nat.reduceAdd, Int.reduceLT, Int.reduceLE, ↓WD, W0, evalOp, Nat.reduceEqDiff, Nat.reduceLT, ↓reduceIte, reduceCtorEq, hl, e0, e5, e8, e10, e59, oc75, oy76, oc77]
                exact ⟨rfl, (by simp only [List.length_set, hl]), (by simp only [W0, Nat.reduceEqDiff, Nat.reduceLT, ↓reduceIte, hl, e0, e5, e8, e10, e59]), (by simp only [W0, Nat.reduceEqDiff, Nat.reduceLT, ↓reduceIte, hl, e0, e5, e8, e10, e59])⟩) ?_
              rintro envg78 _ ⟨rfl, hl, e2, e3⟩
              try simp only [↓WD, W0, evalOp, Nat.reduceEqDiff, Nat.reduceLT, ↓reduceIte, reduceCtorEq, hl, e2, e3]
              refine KP_ret (vs := [.int .i32 (orI .i32 y76 (IntKind.i32.wrap (andI .u8 c54 63))), .int .i64 2]) (by simp only [aresults, aresult, gs, List.length_set, Nat.reduceEqDiff, Nat.reduceLT, ↓reduceIte, hl, e2, e3]) ?_
              obtain rfl := Option.some.inj hF
              exact ⟨rfl, S62⟩
            · rw [if_neg c74] at hF
              try simp only [↓WD, W0, evalOp, Nat.reduceEqDiff, Nat.reduceLT, ↓reduceIte, reduceCtorEq, hl, e0, e5, e8, e10, e59]
              rw [AW_region]
              obtain ⟨c79, qc79, hF⟩ := obind hF
              have oc79 := idx_str (P := Tryd.prog) (k := .i64) Tryd.underlying9 qc79
              refine AE_joinR (fun e h' => h63 = h' ∧ e.length = 117 ∧ e.getD 0 .undef = .str s_ ∧ e.getD 5 .undef = .int .u8 c9 ∧ e.getD 8 .undef = .int .i64 (IntKind.i64.wrap (andI .u8 x11 7)) ∧ e.getD 10 .undef = .int .u8 c54 ∧ e.getD 11 .undef = .int .u8 c79) (by
                simp only [↓WE, WA, WL, aop, ofValue, ofCell, isConst, abin, acall1, abuiltin, aun, AV.cells, AV.one, Nat.reduceAdd, Int.reduceLT, Int.reduceLE, ↓WD, W0, evalOp, Nat.reduceEqDiff, Nat.reduceLT, ↓reduceIte, reduceCtorEq, hl, e0, e5, e8, e10, e59, oc79]
                exact ⟨rfl, (by simp only [List.length_set, hl]), (by simp only [W0, Nat.reduceEqDiff, Nat.reduceLT, ↓reduceIte, hl, e0, e5, e8, e10, e59]), (by simp only [W0, Nat.reduceEqDiff, Nat.reduceLT, ↓reduceIte, hl, e0, e5, e8, e10, e59]), (by simp only [W0, Nat.reduceEqDiff, Nat.reduceLT, ↓reduceIte, hl, e0, e5, e8, e10, e59]), (by simp only [W0, Nat.reduceEqDiff, Nat.reduceLT, ↓reduceIte, hl, e0, e5, e8, e10, e59]), (by simp only [W0, Nat.reduceEqDiff, Nat.reduceLT, ↓reduceIte, hl, e0, e5, e8, e10, e59])⟩) ?_
              rintro envg80 _ ⟨rfl, hl, e0, e5, e8, e10, e11⟩
              try simp only [↓WD, W0, evalOp, Nat.reduceEqDiff, Nat.reduceLT, ↓reduceIte, reduceCtorEq, hl, e0, e5, e8, e10, e11]
              rw [AW_region]
              obtain ⟨j84, qj84, hF⟩ := obind hF
              refine AE_joinR (fun e h' => e.length = 117 ∧ e.getD 0 .undef = .str s_ ∧ e.getD 5 .undef = .int .u8 c9 ∧ e.getD 8 .undef = .int .i64 (IntKind.i64.wrap (andI .u8 x11 7)) ∧ e.getD 10 .undef = .int .u8 c54 ∧ e.getD 11 .undef = .int .u8 c79 ∧ e.getD 75 .undef = .bool j84 ∧ Sep h [] h' []) ?_ ?_
              · simp only [↓WE, WA, WL, aop, ofValue, ofCell, isConst, abin, acall1, abuiltin, aun, AV.cells, AV.one, Nat.reduceAdd, Int.reduceLT, Int.reduceLE, ↓WD, W0, evalOp, Nat.reduceEqDiff, Nat.reduceLT, ↓reduceIte, reduceCtorEq, hl, e0, e5, e8, e10, e11]
                refine GuardW_dec (fun c81 => ?_) (fun c81 => ?_)
                · rw [if_pos c81] at qj84
                  have d82 : (decide (c79 < 128)) = true := decide_eq_true c81
                  simp only [↓WE, WA, WL, aop, ofValue, ofCell, isConst, abin, acall1, abuiltin, aun, AV.cells, AV.one, Nat.reduceAdd, Int.reduceLT, Int.reduceLE, ↓WD, W0, evalOp, Nat.reduceEqDiff, Nat.reduceLT, ↓reduceIte, reduceCtorEq, hl, e0, e5, e8, e10, e11, d82]
                  obtain rfl := Option.some.inj qj84
                  exact ⟨(by simp only [List.length_set, hl]), (by simp only [W0, Nat.reduceEqDiff, Nat.reduceLT, ↓reduceIte, hl, e0, e5, e8, e10, e11]), (by simp only [W0, Nat.reduceEqDiff, Nat.reduceLT, ↓reduceIte, hl, e0, e5, e8, e10, e11]), (by simp only [W0, Nat.reduceEqDiff, Nat.reduceLT, ↓reduceIte, hl, e0, e5, e8, e10, e11]), (by simp only [W0, Nat.reduceEqDiff, Nat.reduceLT, ↓reduceIte, hl, e0, e5, e8, e10, e11]), (by simp only [W0, Nat.reduceEqDiff, Nat.reduceLT, ↓reduceIte, hl, e0, e5, e8, e10, e11]), (by simp only [W0, Nat.reduceEqDiff, Nat.reduceLT, ↓reduceIte, hl, e0, e5, e8, e10, e11]), S62⟩
                · rw [if_neg c81] at qj84
                  have d83 : (decide (c79 < 128)) = false := decide_eq_false c81
                  simp only [↓WE, WA, WL, aop, ofValue, ofCell, isConst, abin, acall1, abuiltin, aun, AV.cells, AV.one, Nat.reduceAdd, Int.reduceLT, Int.reduceLE, ↓WD, W0, evalOp, Nat.reduceEqDiff, Nat.reduceLT, ↓reduceIte, reduceCtorEq, hl, e0, e5, e8, e10, e11, d83]
                  obtain rfl := Option.some.inj qj84
                  exact ⟨(by simp only [List.length_set, hl]), (by simp only [W0, Nat.reduceEqDiff, Nat.reduceLT, ↓reduceIte, hl, e0, e5, e8, e10, e11]), (by simp only [W0, Nat.reduceEqDiff, Nat.reduceLT, ↓reduceIte, hl, e0, e5, e8, e10, e11]), (by simp only [W0, Nat.reduceEqDiff, Nat.reduceLT, ↓reduceIte, hl, e0, e5, e8, e10, e11]), (by simp only [W0, Nat.reduceEqDiff, Nat.reduceLT, ↓reduceIte, hl, e0, e5, e8, e10, e11]), (by simp only [W0, Nat.reduceEqDiff, Nat.reduceLT, ↓reduceIte, hl, e0, e5, e8, e10, e11]), (by simp only [W0, Nat.reduceEqDiff, Nat.reduceLT, ↓reduceIte, hl, e0, e5, e8, e10, e11]), S62⟩
              · rintro envj84 h86 ⟨hl, e0, e5, e8, e10, e11, e75, S85⟩
                try simp only [↓WD, W0, evalOp, Nat.reduceEqDiff, Nat.reduceLT, ↓reduceIte, reduceCtorEq, hl, e0, e5, e8, e10, e11, e75]
                refine CondK_boo (fun c89 => ?_) (fun c89 => ?_)
                · rw [if_pos c89] at hF
                  try simp only [↓WD, W0, evalOp, Nat.reduceEqDiff, Nat.reduceLT, ↓reduceIte, reduceCtorEq, hl, e0, e5, e8, e10, e11, e75]
                  rw [AW_region]
                  refine AE_joinR (fun e h' => h86 = h' ∧ e.length = 117 ∧ e.getD 2 .undef = .int .i32 65533 ∧ e.getD 3 .undef = .int .i64 1) (by
                    simp only [↓WE, WA, WL, aop, ofValue, ofCell, isConst, abin, acall1, abuiltin, aun, AV.cells, AV.one, Nat.reduceAdd, Int.reduceLT, Int.reduceLE, ↓WD, W0, evalOp, Nat.reduceEqDiff, Nat.reduceLT, ↓reduceIte, reduceCtorEq, hl, e0, e5, e8, e10, e11, e75]
                    exact ⟨rfl, (by simp only [List.length_set, hl]), (by simp only [W0, Nat.reduceEqDiff, Nat.reduceLT, ↓reduceIte, hl, e0, e5, e8, e10, e11, e75]), (by simp only [W0, Nat.reduceEqDiff, Nat.reduceLT, ↓reduceIte, hl, e0, e5, e8, e10, e11, e75])⟩) ?_
                  rintro envg90 _ ⟨rfl, hl, e2, e3⟩
                  try simp only [↓WD, W0, evalOp, Nat.reduceEqDiff, Nat.reduceLT, ↓reduceIte, reduceCtorEq, hl, e2, e3]
                  refine KP_ret (vs := [.int .i32 65533, .int .i64 1]) (by simp only [aresults, aresult, gs, List.length_set, Nat.reduceEqDiff, Nat.reduceLT, ↓reduceIte, hl, e2, e3]) ?_
                  obtain rfl := Option.some.inj hF
                  exact ⟨rfl, S85⟩
                · rw [if_neg (nf c89)] at hF
                  try simp only [↓WD, W0, evalOp, Nat.reduceEqDiff, Nat.reduceLT, ↓reduceIte, reduceCtorEq, hl, e0, e5, e8, e10, e11, e75]
                  rw [AW_region]
                  refine AE_joinR (fun e h' => h86 = h' ∧ e.length = 117 ∧ e.getD 0 .undef = .str s_ ∧ e.getD 5 .undef = .int .u8 c9 ∧ e.getD 10 .undef = .int .u8 c54 ∧ e.getD 11 .undef = .int .u8 c79 ∧ e.getD 77 .undef = .bool (decide ((IntKind.i64.wrap (andI .u8 x11 7)) ≤ 3))) (by
                    simp only [↓WE, WA, WL, aop, ofValue, ofCell, isConst, abin, acall1, abuiltin, aun, AV.cells, AV.one, Nat.reduceAdd, Int.reduceLT, Int.reduceLE, ↓WD, W0, evalOp, Nat.reduceEqDiff, Nat.reduceLT, ↓reduceIte, reduceCtorEq, hl, e0, e5, e8, e10, e11, e75]
                    exact ⟨rfl, (by simp only [List.length_set, hl]), (by simp only [W0, Nat.reduceEqDiff, Nat.reduceLT, ↓reduceIte, hl, e0, e5, e8, e10, e11, e75]), (by simp only [W0, Nat.reduceEqDiff, Nat.reduceLT, ↓reduceIte, hl, e0, e5, e8, e10, e11, e75]), (by simp only [W0, Nat.reduceEqDiff, Nat.reduceLT, ↓reduceIte, hl, e0, e5, e8, e10, e11, e75]), (by simp only [W0, Nat.reduceEqDiff, Nat.reduceLT, ↓reduceIte, hl, e0, e5, e8, e10, e11, e75]), (by simp only [W0, Nat.reduceEqDiff, Nat.reduceLT, ↓reduceIte, hl, e0, e5, e8, e10, e11, e75])⟩) ?_
                  rintro envg91 _ ⟨rfl, hl, e0, e5, e10, e11, e77⟩
                  try simp only [↓WD, W0, evalOp, Nat.reduceEqDiff, Nat.reduceLT, ↓reduceIte, reduceCtorEq, hl, e0, e5, e10, e11, e77]
                  refine CondK_dec (fun c99 => ?_) (fun c99 => ?_)
                  · rw [if_pos c99] at hF
                    try simp only [↓WD, W0, evalOp, Nat.reduceEqDiff, Nat.reduceLT, ↓reduceIte, reduceCtorEq, hl, e0, e5, e10, e11, e77]
                    rw [AW_region]
                    have oc100 := fun g : AH => aconv_int (P := Tryd.prog) (h := g) (n := andI .u8 c9 15) (k' := .u8) Tryd.underlying5 Tryd.underlying21
                    obtain ⟨y101, qy101, hF⟩ := obind hF
                    have oy101 := shl_int (k := .i32) qy101
                    have oc102 := fun g : AH => aconv_int (P := Tryd.prog) (h := g) (n := andI .u8 c54 63) (k' := .u8) Tryd.underlying5 Tryd.underlying21
                    obtain ⟨y103, qy103, hF⟩ := obind hF
                    have oy103 := shl_int (k := .i32) qy103
                    have oc104 := fun g : AH => aconv_int (P := Tryd.prog) (h := g) (n := andI .u8 c79 63) (k' := .u8) Tryd.underlying5 Tryd.underlying21
                    refine AE_joinR (fun e h' => h86 = h' ∧ e.length = 117 ∧ e.getD 2 .undef = .int .i32 (orI .i32 (orI .i32 y101 y103) (IntKind.i32.wrap (andI .u8 c79 63))) ∧ e.getD 3 .undef = .int .i64 3) (by
                      simp only [↓WE, WA, WL, aop, ofValue, ofCell, isConst, abin, acall1, abuiltin, aun, AV.cells, AV.one, Nat.reduceAdd, Int.reduceLT, Int.reduceLE, ↓WD, W0, evalOp, Nat.reduceEqDiff, Nat.reduceLT, ↓reduceIte, reduceCtorEq, hl, e0, e5, e10, e11, e77, oc100, oy101, oc102, oy103, oc104]
                      exact ⟨rfl, (by simp only [List.length_set, hl]), (by simp only [W0, Nat.reduceEqDiff, Nat.reduceLT, ↓reduceIte, hl, e0, e5, e10, e11, e77]), (by simp only [W0, Nat.reduceEqDiff, Nat.reduceLT, ↓reduceIte, hl, e0, e5, e10, e11, e77])⟩) ?_
                    rintro envg105 _ ⟨rfl, hl, e2, e3⟩
                    try simp only [↓WD, W0, evalOp, Nat.reduceEqDiff, Nat.reduceLT, ↓reduceIte, reduceCtorEq, hl, e2, e3]
                    refine KP_ret (vs := [.int .i32 (orI .i32 (orI .i32 y101 y103) (IntKind.i32.wrap (andI .u8 c79 63))), .int .i64 3]) (by simp only [aresults, aresult, gs, List.length_set, Nat.reduceEqDiff, Nat.reduceLT, ↓reduceIte, hl, e2, e3]) ?_
                    obtain rfl := Option.some.inj hF
                    exact ⟨rfl, S85⟩
                  · rw [if_neg c99] at hF
                    try simp only [↓WD, W0, evalOp, Nat.reduceEqDiff, Nat.reduceLT, ↓reduceIte, reduceCtorEq, hl, e0, e5, e10, e11, e77]
                    rw [AW_region]
                    obtain ⟨c106, qc106, hF⟩ := obind hF
                    have oc106 := idx_str (P := Tryd.prog) (k := .i64) Tryd.underlying9 qc106
                    refine AE_joinR (fun e h' => h86 = h' ∧ e.length = 117 ∧ e.getD 5 .undef = .int .u8 c9 ∧ e.getD 10 .undef = .int .u8 c54 ∧ e.getD 11 .undef = .int .u8 c79 ∧ e.getD 12 .undef = .int .u8 c106) (by
                      simp only [↓WE, WA, WL, aop, ofValue, ofCell, isConst, abin, acall1, abuiltin, aun, AV.cells, AV.one, Nat.reduceAdd, Int.reduceLT, Int.reduceLE, ↓WD, W0, evalOp, Nat.reduceEqDiff, Nat.reduceLT, ↓reduceIte, reduceCtorEq, hl, e0, e5, e10, e11, e77, oc106]
                      exact ⟨rfl, (by simp only [List.length_set, hl]), (by simp only [W0, Nat.reduceEqDiff, Nat.reduceLT, ↓reduceIte, hl, e0, e5, e10, e11, e77]), (by simp only [W0, Nat.reduceEqDiff, Nat.reduceLT, ↓reduceIte, hl, e0, e5, e10, e11, e77]), (by simp only [W0, Nat.reduceEqDiff, Nat.reduceLT, ↓reduceIte, hl, e0, e5, e10, e11, e77]), (by simp only [W0, Nat.reduceEqDiff, Nat.reduceLT, ↓reduceIte, hl, e0, e5, e10, e11, e77])⟩) ?_
                    rintro envg107 _ ⟨rfl, hl, e5, e10, e11, e12⟩
                    try simp only [↓WD, W0, evalOp, Nat.reduceEqDiff, Nat.reduceLT, ↓reduceIte, reduceCtorEq, hl, e5, e10, e11, e12]
                    rw [AW_region]
                    obtain ⟨j111, qj111, hF⟩ := obind hF
                    refine AE_joinR (fun e h' => e.length = 117 ∧ e.getD 5 .undef = .int .u8 c9 ∧ e.getD 10 .undef = .int .u8 c54 ∧ e.getD 11 .undef = .int .u8 c79 ∧ e.getD 12 .undef = .int .u8 c106 ∧ e.getD 98 .undef = .bool j111 ∧ Sep h [] h' []) ?_ ?_
                    · simp only [↓WE, WA, WL, aop, ofValue, ofCell, isConst, abin, acall1, abuiltin, aun, AV.cells, AV.one, Nat.reduceAdd, Int.reduceLT, Int.reduceLE, ↓WD, W0, evalOp, Nat.reduceEqDiff, Nat.reduceLT, ↓reduceIte, reduceCtorEq, hl, e5, e10, e11, e12]
                      refine GuardW_dec (fun c108 => ?_) (fun c108 => ?_)
                      · rw [if_pos c108] at qj111
                        have d109 : (decide (c106 < 128)) = true := decide_eq_true c108
                        simp only [↓WE, WA, WL, aop, ofValue, ofCell, isConst, abin, acall1, abuiltin, aun, AV.cells, AV.one, Nat.reduceAdd, Int.reduceLT, Int.reduceLE, ↓WD, W0, evalOp, Nat.reduceEqDiff, Nat.reduceLT, ↓reduceIte, reduceCtorEq, hl, e5, e10, e11, e12, d109]
                        obtain rfl := Option.some.inj qj111
                        exact ⟨(by simp only [List.length_set, hl]), (by simp only [W0, Nat.reduceEqDiff, Nat.reduceLT, ↓reduceIte, hl, e5, e10, e11, e12]), (by simp only [W0, Nat.reduceEqDiff, Nat.reduceLT, ↓reduceIte, hl, e5, e10, e11, e12]), (by simp only [W0, Nat.reduceEqDiff, Nat.reduceLT, ↓reduceIte, hl, e5, e10, e11, e12]), (by simp only [W0, Nat.reduceEqDiff, Nat.reduceLT, ↓reduceIte, hl, e5, e10, e11, e12]), (by simp only [W0, Nat.reduceEqDiff, Nat.reduceLT, ↓reduceIte, hl, e5, e10, e11, e12]), S85⟩
                      · rw [if_neg c108] at qj111
                        have d110 : (decide (c106 < 128)) = false := decide_eq_false c108
                        simp only [↓WE, WA, WL, aop, ofValue, ofCell, isConst, abin, acall1, abuiltin, aun, AV.cells, AV.one, Nat.reduceAdd, Int.reduceLT, Int.reduceLE, ↓WD, W0, evalOp, Nat.reduceEqDiff, Nat.reduceLT, ↓reduceIte, reduceCtorEq, hl, e5, e10, e11, e12, d110]
                        obtain rfl := Option.some.inj qj111
                        exact ⟨(by simp only [List.length_set, hl]), (by simp only [W0, Nat.reduceEqDiff, Nat.reduceLT, ↓reduceIte, hl, e5, e10, e11, e12]), (by simp only [W0, Nat.reduceEqDiff, Nat.reduceLT, ↓reduceIte, hl, e5, e10, e11, e12]), (by simp only [W0, Nat.reduceEqDiff, Nat.reduceLT, ↓reduceIte, hl, e5, e10, e11, e12]), (by simp only [W0, Nat.reduceEqDiff, Nat.reduceLT, ↓reduceIte, hl, e5, e10, e11, e12]), (by simp only [W0, Nat.reduceEqDiff, Nat.reduceLT, ↓reduceIte, hl, e5, e10, e11, e12]), S85⟩
                    · rintro envj111 h113 ⟨hl, e5, e10, e11, e12, e98, S112⟩
                      try simp only [↓WD, W0, evalOp, Nat.reduceEqDiff, Nat.reduceLT, ↓reduceIte, reduceCtorEq, hl, e5, e10, e11, e12, e98]
                      refine CondK_boo (fun c116 => ?_) (fun c116 => ?_)
                      · rw [if_pos c116] at hF
                        try simp only [↓WD, W0, evalOp, Nat.reduceEqDiff, Nat.reduceLT, ↓reduceIte, reduceCtorEq, hl, e5, e10, e11, e12, e98]
                        rw [AW_region]
                        refine AE_joinR (fun e h' => h113 = h' ∧ e.length = 117 ∧ e.getD 2 .undef = .int .i32 65533 ∧ e.getD 3 .undef = .int .i64 1) (by
                          simp only [↓WE, WA, WL, aop, ofValue, ofCell, isConst, abin, acall1, abuiltin, aun, AV.cells, AV.one, Nat.reduceAdd, Int.reduceLT, Int.reduceLE, ↓WD, W0, evalOp, Nat.reduceEqDiff, Nat.reduceLT, ↓reduceIte, reduceCtorEq, hl, e5, e10, e11, e12, e98]
                          exact ⟨rfl, (by simp only [List.length_set, hl]), (by simp only [W0, Nat.reduceEqDiff, Nat.reduceLT, ↓reduceIte, hl, e5, e10, e11, e12, e98]), (by simp only [W0, Nat.reduceEqDiff, Nat.reduceLT, ↓reduceIte, hl, e5, e10, e11, e12, e98])⟩) ?_
                        rintro envg117 _ ⟨rfl, hl, e2, e3⟩
                        try simp only [↓WD, W0, evalOp, Nat.reduceEqDiff, Nat.reduceLT, ↓reduceIte, reduceCtorEq, hl, e2, e3]
                        refine KP_ret (vs := [.int .i32 65533, .int .i64 1]) (by simp only [aresults, aresult, gs, List.length_set, Nat.reduceEqDiff, Nat.reduceLT, ↓reduceIte, hl, e2, e3]) ?_
                        obtain rfl := Option.some.inj hF
                        exact ⟨rfl, S112⟩
                      · rw [if_neg (nf c116)] at hF
                        try simp only [↓WD, W0, evalOp, Nat.reduceEqDiff, Nat.reduceLT, ↓reduceIte, reduceCtorEq, hl, e5, e10, e11, e12, e98]
                        rw [AW_region]
                        have oc118 := fun g : AH => aconv_int (P := Tryd.prog) (h := g) (n := andI .u8 c9 7) (k' := .u8) Tryd.underlying5 Tryd.underlying21
                        obtain ⟨y119, qy119, hF⟩ := obind hF
                        have oy119 := shl_int (k := .i32) qy119
                        have oc120 := fun g : AH => aconv_int (P := Tryd.prog) (h := g) (n := andI .u8 c54 63) (k' := .u8) Tryd.underlying5 Tryd.underlying21
                        obtain ⟨y121, qy121, hF⟩ := obind hF
                        have oy121 := shl_int (k := .i32) qy121
                        have oc122 := fun g : AH => aconv_int (P := Tryd.prog) (h := g) (n := andI .u8 c79 63) (k' := .u8) Tryd.underlying5 Tryd.underlying21
                        obtain ⟨y123, qy123, hF⟩ := obind hF
                        have oy123 := shl_int (k := .i32) qy123
                        have oc124 := fun g : AH => aconv_int (P := Tryd.prog) (h := g) (n := andI .u8 c106 63) (k' := .u8) Tryd.underlying5 Tryd.underlying21
                        refine AE_joinR (fun e h' => h113 = h' ∧ e.length = 117 ∧ e.getD 2 .undef = .int .i32 (orI .i32 (orI .i32 (orI .i32 y119 y121) y123) (IntKind.i32.wrap (andI .u8 c106 63))) ∧ e.getD 3 .undef = .int .i64 4) (by
                          simp only [↓WE, WA, WL, aop, ofValue, ofCell, isConst, abin, acall1, abuiltin, aun, AV.cells, AV.one, Nat.reduceAdd, Int.reduceLT, Int.reduceLE, ↓WD, W0, evalOp, Nat.reduceEqDiff, Nat.reduceLT, ↓reduceIte, reduceCtorEq, hl, e5, e10, e11, e12, e98, oc118, oy119, oc120, oy121, oc122, oy123, oc124]
                          exact ⟨rfl, (by simp only [List.length_set, hl]), (by simp only [W0, Nat.reduceEqDiff, Nat.reduceLT, ↓reduceIte, hl, e5, e10, e11, e12, e98]), (by simp only [W0, Nat.reduceEqDiff, Nat.reduceLT, ↓reduceIte, hl, e5, e10, e11, e12, e98])⟩) ?_
                        rintro envg125 _ ⟨rfl, hl, e2, e3⟩
                        try simp only [↓WD, W0, evalOp, Nat.reduceEqDiff, Nat.reduceLT, ↓reduceIte, reduceCtorEq, hl, e2, e3]
                        refine KP_ret (vs := [.int .i32 (orI .i32 (orI .i32 (orI .i32 y119 y121) y123) (IntKind.i32.wrap (andI .u8 c106 63))), .int .i64 4]) (by simp only [aresults, aresult, gs, List.length_set, Nat.reduceEqDiff, Nat.reduceLT, ↓reduceIte, hl, e2, e3]) ?_
                        obtain rfl := Option.some.inj hF
                        exact ⟨rfl, S112⟩
set_option maxRecDepth 100000 in
set_option maxHeartbeats 4000000 in
theorem W_unicode_utf8_DecodeRuneInString {K : PureK} (n21 : K 21 = none) (n13 : K 13 = none) (m : Nat) (hm : NF + 2 ≤ m) (h : AH) (hG : GL h) (s_ : List UInt8) {r : Int × Int} (hF : F_unicode_utf8_DecodeRuneInString s_ = some r) :
    AR (acall Tryd.prog (hooksOf K) (drawnOf Tryd.prog (tabOf K)) m 13 [.str s_] h) (fun v h' => v = .tup [.int .i32 r.1, .int .i64 r.2] ∧ Sep h [] h' []) := by
  obtain ⟨m, rfl⟩ : ∃ k, m = k + 1 := ⟨m - 1, by omega⟩
  refine AR_call (hooksOf_none n13) Tryd.func13 rfl _ _ fun env hl he => ?_
  have e0 := he 0
  simp only [List.getD_cons_zero, List.getD_cons_succ] at e0
  simp only [Tryd.f13] at hl ⊢
  simp only [List.length_cons, List.length_nil, Nat.reduceAdd, Nat.reduceSub] at hl
  clear he
  have S0 : Sep h [] h [] := Sep.nil h
  rw [F_unicode_utf8_DecodeRuneInString] at hF
  try simp only [↓WD, W0, evalOp, Nat.reduceEqDiff, Nat.reduceLT, ↓reduceIte, reduceCtorEq, hl, e0]
  rw [AW_region]
  refine AE_joinR (fun e h' => h = h' ∧ e.length = 19 ∧ e.getD 0 .undef = .str s_) (by
    simp only [↓WE, WA, WL, aop, ofValue, ofCell, isConst, abin, acall1, abuiltin, aun, AV.cells, AV.one, Nat.reduceAdd, Int.reduceLT, Int.reduceLE, ↓WD, W0, evalOp, Nat.reduceEqDiff, Nat.reduceLT, ↓reduceIte, reduceCtorEq, hl, e0]
    exact ⟨rfl, (by simp only [List.length_set, hl]), (by simp only [W0, Nat.reduceEqDiff, Nat.reduceLT, ↓reduceIte, hl, e0])⟩) ?_
  rintro envg1 _ ⟨rfl, hl, e0⟩
  try simp only [↓WD, W0, evalOp, Nat.reduceEqDiff, Nat.reduceLT, ↓reduceIte, reduceCtorEq, hl, e0]
  rw [AW_region]
  obtain ⟨j6, qj6, hF⟩ := obind hF
  refine AE_joinR (fun e h' => e.length = 19 ∧ e.getD 0 .undef = .str s_ ∧ e.getD 10 .undef = .bool j6 ∧ Sep h [] h' []) ?_ ?_
  · simp only [↓WE, WA, WL, aop, ofValue, ofCell, isConst, abin, acall1, abuiltin, aun, AV.cells, AV.one, Nat.reduceAdd, Int.reduceLT, Int.reduceLE, ↓WD, W0, evalOp, Nat.reduceEqDiff, Nat.reduceLT, ↓reduceIte, reduceCtorEq, hl, e0]
    refine GuardW_boo (fun c2 => ?_) (fun c2 => ?_)
    · rw [if_pos c2] at qj6
      have d3 := c2
      obtain ⟨c5, qc5, qj6⟩ := obind qj6
      have oc5 := idx_str (P := Tryd.prog) (k := .i64) Tryd.underlying9 qc5
      simp only [↓WE, WA, WL, aop, ofValue, ofCell, isConst, abin, acall1, abuiltin, aun, AV.cells, AV.one, Nat.reduceAdd, Int.reduceLT, Int.reduceLE, ↓WD, W0, evalOp, Nat.reduceEqDiff, Nat.reduceLT, ↓reduceIte, reduceCtorEq, hl, e0, oc5, d3]
      obtain rfl := Option.some.inj qj6
      exact ⟨(by simp only [List.length_set, hl]), (by simp only [W0, Nat.reduceEqDiff, Nat.reduceLT, ↓reduceIte, hl, e0]), (by simp only [W0, Nat.reduceEqDiff, Nat.reduceLT, ↓reduceIte, hl, e0]), S0⟩
    · rw [if_neg (nf c2)] at qj6
      have d4 := c2
      simp only [↓WE, WA, WL, aop, ofValue, ofCell, isConst, abin, acall1, abuiltin, aun, AV.cells, AV.one, Nat.reduceAdd, Int.reduceLT, Int.reduceLE, ↓WD, W0, evalOp, Nat.reduceEqDiff, Nat.reduceLT, ↓reduceIte, reduceCtorEq, hl, e0, d4]
      obtain rfl := Option.some.inj qj6
      exact ⟨(by simp only [List.length_set, hl]), (by simp only [W0, Nat.reduceEqDiff, Nat.reduceLT, ↓reduceIte, hl, e0]), (by simp only [W0, Nat.reduceEqDiff, Nat.reduceLT, ↓reduceIte, hl, e0]), S0⟩
  · rintro envj6 h8 ⟨hl, e0, e10, S7⟩
    try simp only [↓WD, W0, evalOp, Nat.reduceEqDiff, Nat.reduceLT, ↓reduceIte, reduceCtorEq, hl, e0, e10]
    refine CondK_boo (fun c20 => ?_) (fun c20 => ?_)
    · rw [if_pos c20] at hF
      try simp only [↓WD, W0, evalOp, Nat.reduceEqDiff, Nat.reduceLT, ↓reduceIte, reduceCtorEq, hl, e0, e10]
      rw [AW_region]
      obtain ⟨c21, qc21, hF⟩ := obind hF
      have oc21 := idx_str (P := Tryd.prog) (k := .i64) Tryd.underlying9 qc21
      have oc22 := fun g : AH => aconv_int (P := Tryd.prog) (h := g) (n := c21) (k' := .u8) Tryd.underlying5 Tryd.underlying21
      refine AE_joinR (fun e h' => h8 = h' ∧ e.length = 19 ∧ e.getD 2 .undef = .int .i32 (IntKind.i32.wrap c21) ∧ e.getD 3 .undef = .int .i64 1) (by
        simp only [↓WE, WA, WL, aop, ofValue, ofCell, isConst, abin, acall1, abuiltin, aun, AV.cells, AV.one, Nat.reduceAdd, Int.reduceLT, Int.reduceLE, ↓WD, W0, evalOp, Nat.reduceEqDiff, Nat.reduceLT, ↓reduceIte, reduceCtorEq, hl, e0, e10, oc21, oc22]
        exact ⟨rfl, (by simp only [List.length_set, hl]), (by simp only [W0, Nat.reduceEqDiff, Nat.reduceLT, ↓reduceIte, hl, e0, e10]), (by simp only [W0, Nat.reduceEqDiff, Nat.reduceLT, ↓reduceIte, hl, e0, e10])⟩) ?_
      rintro envg23 _ ⟨rfl, hl, e2, e3⟩
      try simp only [↓WD, W0, evalOp, Nat.reduceEqDiff, Nat.reduceLT, ↓reduceIte, reduceCtorEq, hl, e2, e3]
      refine KP_ret (vs := [.int .i32 (IntKind.i32.wrap c21), .int .i64 1]) (by simp only [aresults, aresult, gs, List.length_set, Nat.reduceEqDiff, Nat.reduceLT, ↓reduceIte, hl, e2, e3]) ?_
      obtain rfl := Option.some.inj hF
      exact ⟨rfl, S7⟩
    · rw [if_neg (nf c20)] at hF
      try simp only [↓WD, W0, evalOp, Nat.reduceEqDiff, Nat.reduceLT, ↓reduceIte, reduceCtorEq, hl, e0, e10]
      rw [AW_region]
      obtain ⟨y24, qy24, hF⟩ := obind hF
      obtain ⟨v28, h26, og25, rfl, S27⟩ := (W_unicode_utf8_decodeRuneInStringSlow n21 m (by omega) h8 (GL.keep0 S7 hG) s_ qy24).out
      have S29 : Sep h [] h26 [] := S7.call0 S27
      refine AE_joinR (fun e h' => h26 = h' ∧ e.length = 19 ∧ e.getD 2 .undef = .int .i32 y24.1 ∧ e.getD 3 .undef = .int .i64 y24.2) (by
        simp only [↓WE, WA, WL, aop, ofValue, ofCell, isConst, abin, acall1, abuiltin, aun, AV.cells, AV.one, Nat.reduceAdd, Int.reduceLT, Int.reduceLE, ↓WD, W0, evalOp, Nat.reduceEqDiff, Nat.reduceLT, ↓reduceIte, reduceCtorEq, hl, e0, e10, og25]
        exact ⟨rfl, (by simp only [List.length_set, hl]), (by simp only [W0, Nat.reduceEqDiff, Nat.reduceLT, ↓reduceIte, hl, e0, e10]), (by simp only [W0, Nat.reduceEqDiff, Nat.reduceLT, ↓reduceIte, hl, e0, e10])⟩) ?_
      rintro envg30 _ ⟨rfl, hl, e2, e3⟩
      try simp only [↓WD, W0, evalOp, Nat.reduceEqDiff, Nat.reduceLT, ↓reduceIte, reduceCtorEq, hl, e2, e3]
      refine KP_ret (vs := [.int .i32 y24.1, .int .i64 y24.2]) (by simp only [aresults, aresult, gs, List.length_set, Nat.reduceEqDiff, Nat.reduceLT, ↓reduceIte, hl, e2, e3]) ?_
      obtain rfl := Option.some.inj hF
      exact ⟨rfl, S29⟩
set_option maxRecDepth 100000 in
set_option maxHeartbeats 4000000 in
theorem W_fold_Table {K : PureK} (n12 : K 12 = none) (m : Nat) (hm : NF + 1 ≤ m) (h : AH)  {r : (List GA3_i64)} (hF : F_fold_Table  = some r) :
    AR (acall Tryd.prog (hooksOf K) (drawnOf Tryd.prog (tabOf K)) m 12 [] h) (fun v h' => ∃ w0 : AV, v = w0 ∧ Sep h [] h' [.row w0 29 3 (r.map GA3_i64.cells)]) := by
  obtain ⟨m, rfl⟩ : ∃ k, m = k + 1 := ⟨m - 1, by omega⟩
  refine AR_call (hooksOf_none n12) Tryd.func12 rfl _ _ fun env hl he => ?_
  simp only [Tryd.f12] at hl ⊢
  simp only [List.length_cons, List.length_nil, Nat.reduceAdd, Nat.reduceSub] at hl
  clear he
  have S0 : Sep h [] h [] := Sep.nil h
  rw [F_fold_Table] at hF
  try simp only [↓WD, W0, evalOp, Nat.reduceEqDiff, Nat.reduceLT, ↓reduceIte, reduceCtorEq, hl]
  rw [AW_region]
  refine AE_joinR (fun e h' => h = h' ∧ e.length = 49) (by
    simp only [↓WE, WA, WL, aop, ofValue, ofCell, isConst, abin, acall1, abuiltin, aun, AV.cells, AV.one, Nat.reduceAdd, Int.reduceLT, Int.reduceLE, ↓WD, W0, evalOp, Nat.reduceEqDiff, Nat.reduceLT, ↓reduceIte, reduceCtorEq, hl]
    exact ⟨rfl, (by simp only [List.length_set, hl])⟩) ?_
  rintro envg1 _ ⟨rfl, hl⟩
  try simp only [↓WD, W0, evalOp, Nat.reduceEqDiff, Nat.reduceLT, ↓reduceIte, reduceCtorEq, hl]
  rw [AW_region]
  refine AE_joinR (fun e h' => h = h' ∧ e.length = 49 ∧ e.getD 1 .undef = .val (.slice none 0 0)) (by
    simp only [↓WE, WA, WL, aop, ofValue, ofCell, isConst, abin, acall1, abuiltin, aun, AV.cells, AV.one, Nat.reduceAdd, Int.reduceLT, Int.reduceLE, ↓WD, W0, evalOp, Nat.reduceEqDiff, Nat.reduceLT, ↓reduceIte, reduceCtorEq, hl]
    exact ⟨rfl, (by simp only [List.length_set, hl]), (by simp only [W0, Nat.reduceEqDiff, Nat.reduceLT, ↓reduceIte, hl])⟩) ?_
  rintro envg2 _ ⟨rfl, hl, e1⟩
  try simp only [↓WD, W0, evalOp, Nat.reduceEqDiff, Nat.reduceLT, ↓reduceIte, reduceCtorEq, hl, e1]
  rw [AW_region]
  obtain ⟨u3, h4, ob5, S6⟩ := Sep.build (P := Tryd.prog) sl_50 S0 [.agg [.int .i64 65, .int .i64 90, .int .i64 32, .int .i64 0], .agg [.int .i64 192, .int .i64 222, .int .i64 32, .int .i64 215], .agg [.int .i64 913, .int .i64 937, .int .i64 32, .int .i64 930], .agg [.int .i64 1024, .int .i64 1039, .int .i64 80, .int .i64 0], .agg [.int .i64 1040, .int .i64 1071, .int .i64 32, .int .i64 0]] (([(⟨65, 90, 32, 0⟩ : GA4_i64), (⟨192, 222, 32, 215⟩ : GA4_i64), (⟨913, 937, 32, 930⟩ : GA4_i64), (⟨1024, 1039, 80, 0⟩ : GA4_i64), (⟨1040, 1071, 32, 0⟩ : GA4_i64)] : List GA4_i64).map GA4_i64.cells) rfl (by simp [GA4_i64.cells]) (by simp)
  have ob5 : abuildSlice Tryd.prog 50 5 [(0, .agg [.int .i64 65, .int .i64 90, .int .i64 32, .int .i64 0]), (1, .agg [.int .i64 192, .int .i64 222, .int .i64 32, .int .i64 215]), (2, .agg [.int .i64 913, .int .i64 937, .int .i64 32, .int .i64 930]), (3, .agg [.int .i64 1024, .int .i64 1039, .int .i64 80, .int .i64 0]), (4, .agg [.int .i64 1040, .int .i64 1071, .int .i64 32, .int .i64 0])] h = some (u3, h4) := ob5
  have S8 : Sep h [] h4 [.row u3 49 4 (([(⟨65, 90, 32, 0⟩ : GA4_i64), (⟨192, 222, 32, 215⟩ : GA4_i64), (⟨913, 937, 32, 930⟩ : GA4_i64), (⟨1024, 1039, 80, 0⟩ : GA4_i64), (⟨1040, 1071, 32, 0⟩ : GA4_i64)] : List GA4_i64).map GA4_i64.cells)] := S6
  have ol9 : alenOf Tryd.prog 50 u3 h4 = some (.int .i64 5) := RO.len (P := Tryd.prog) sl_50 (S8.row_ro (i := 0) rfl)
  refine AE_joinR (fun e h' => h4 = h' ∧ e.length = 49 ∧ e.getD 1 .undef = .val (.slice none 0 0) ∧ e.getD 9 .undef = u3 ∧ e.getD 10 .undef = .int .i64 5 ∧ e.getD 11 .undef = .int .i64 0) (by
    simp only [↓WE, WA, WL, aop, ofValue, ofCell, isConst, abin, acall1, abuiltin, aun, AV.cells, AV.one, Nat.reduceAdd, Int.reduceLT, Int.reduceLE, ↓WD, W0, evalOp, Nat.reduceEqDiff, Nat.reduceLT, ↓reduceIte, reduceCtorEq, hl, e1, bd_49_0_1_2_3, ob5, ol9]
    exact ⟨rfl, (by simp only [List.length_set, hl]), (by simp only [W0, Nat.reduceEqDiff, Nat.reduceLT, ↓reduceIte, hl, e1]), (by simp only [W0, Nat.reduceEqDiff, Nat.reduceLT, ↓reduceIte, hl, e1]), (by simp only [W0, Nat.reduceEqDiff, Nat.reduceLT, ↓reduceIte, hl, e1]), (by simp only [W0, Nat.reduceEqDiff, Nat.reduceLT, ↓reduceIte, hl, e1])⟩) ?_
  rintro envg10 _ ⟨rfl, hl, e1, e9, e10, e11⟩
  try simp only [↓WD, W0, evalOp, Nat.reduceEqDiff, Nat.reduceLT, ↓reduceIte, reduceCtorEq, hl, e1, e9, e10, e11]
  have S139 : Sep h [] h4 [.row u3 49 4 (([(⟨65, 90, 32, 0⟩ : GA4_i64), (⟨192, 222, 32, 215⟩ : GA4_i64), (⟨913, 937, 32, 930⟩ : GA4_i64), (⟨1024, 1039, 80, 0⟩ : GA4_i64), (⟨1040, 1071, 32, 0⟩ : GA4_i64)] : List GA4_i64).map GA4_i64.cells), .row (.val (.slice none 0 0)) 29 3 (([] : List GA3_i64).map GA3_i64.cells)] := S8.nilrow 29 3
  obtain ⟨r267, qr267, hF⟩ := obind hF
  refine AW_lift (L_fold_Table_1) (fun s e h' => ∃ (u143 : AV), e.length = 49 ∧ e.getD 1 .undef = u143 ∧ e.getD 9 .undef = u3 ∧ e.getD 10 .undef = .int .i64 5 ∧ e.getD 11 .undef = .int .i64 s.2 ∧ Sep h [] h' [.row u3 49 4 (([(⟨65, 90, 32, 0⟩ : GA4_i64), (⟨192, 222, 32, 215⟩ : GA4_i64), (⟨913, 937, 32, 930⟩ : GA4_i64), (⟨1024, 1039, 80, 0⟩ : GA4_i64), (⟨1040, 1071, 32, 0⟩ : GA4_i64)] : List GA4_i64).map GA4_i64.cells), .row u143 29 3 (s.1.map GA3_i64.cells)]) (fun r267 x e h' => ∃ (u268 : AV), x = .exit 0 ∧ e.length = 49 ∧ e.getD 1 .undef = u268 ∧ Sep h [] h' [.row u268 29 3 (r267.map GA3_i64.cells)]) qr267 (by omega) ?_ ?_ ?_
  · rintro s envr267 h144 or267 ⟨u143, hl, e1, e9, e10, e11, S145⟩ wr267
    rw [L_fold_Table_1] at wr267
    try simp only [↓WD, W0, evalOp, Nat.reduceEqDiff, Nat.reduceLT, ↓reduceIte, reduceCtorEq, hl, e1, e9, e10, e11]
    rw [AW_region]
    refine AE_joinR (fun e h' => h144 = h' ∧ e.length = 49 ∧ e.getD 1 .undef = u143 ∧ e.getD 9 .undef = u3 ∧ e.getD 10 .undef = .int .i64 5 ∧ e.getD 11 .undef = .int .i64 s.2 ∧ e.getD 12 .undef = .bool (decide (s.2 < 5))) (by
      simp only [↓WE, WA, WL, aop, ofValue, ofCell, isConst, abin, acall1, abuiltin, aun, AV.cells, AV.one, Nat.reduceAdd, Int.reduceLT, Int.reduceLE, ↓WD, W0, evalOp, Nat.reduceEqDiff, Nat.reduceLT, ↓reduceIte, reduceCtorEq, hl, e1, e9, e10, e11]
      exact ⟨rfl, (by simp only [List.length_set, hl]), (by simp only [W0, Nat.reduceEqDiff, Nat.reduceLT, ↓reduceIte, hl, e1, e9, e10, e11]), (by simp only [W0, Nat.reduceEqDiff, Nat.reduceLT, ↓reduceIte, hl, e1, e9, e10, e11]), (by simp only [W0, Nat.reduceEqDiff, Nat.reduceLT, ↓reduceIte, hl, e1, e9, e10, e11]), (by simp only [W0, Nat.reduceEqDiff, Nat.reduceLT, ↓reduceIte, hl, e1, e9, e10, e11]), (by simp only [W0, Nat.reduceEqDiff, Nat.reduceLT, ↓reduceIte, hl, e1, e9, e10, e11])⟩) ?_
    rintro envg146 _ ⟨rfl, hl, e1, e9, e10, e11, e12⟩
    try simp only [↓WD, W0, evalOp, Nat.reduceEqDiff, Nat.reduceLT, ↓reduceIte, reduceCtorEq, hl, e1, e9, e10, e11, e12]
    refine CondK_dec (fun c148 => ?_) (fun c148 => ?_)
    · rw [if_pos c148] at wr267
      try simp only [↓WD, W0, evalOp, Nat.reduceEqDiff, Nat.reduceLT, ↓reduceIte, reduceCtorEq, hl, e1, e9, e10, e11, e12]
      rw [AW_region]
      obtain ⟨x149, qx149, wr267⟩ := obind wr267
      obtain ⟨i150, off151, oi152, hp153⟩ := RO.addr (P := Tryd.prog) sl_50 (S145.row_ro (i := 0) rfl) qx149
      have ol154 := RO.ld (P := Tryd.prog) (S145.row_ro (i := 0) rfl) hp153 qx149 (t := 49) (o := 0) (v := .agg [.int .i64 x149.x0, .int .i64 x149.x1, .int .i64 x149.x2, .int .i64 x149.x3]) (by omega) (by simp only [apart, ag_49, sz_49]; rfl)
      simp only [Nat.add_zero] at ol154
      obtain ⟨i155, h156, oa157, S158⟩ := S145.alloc 49 [.int .i64 0, .int .i64 0, .int .i64 0, .int .i64 0]
      have S160 : Sep h [] h156 [.row u3 49 4 (([(⟨65, 90, 32, 0⟩ : GA4_i64), (⟨192, 222, 32, 215⟩ : GA4_i64), (⟨913, 937, 32, 930⟩ : GA4_i64), (⟨1024, 1039, 80, 0⟩ : GA4_i64), (⟨1040, 1071, 32, 0⟩ : GA4_i64)] : List GA4_i64).map GA4_i64.cells), .row u143 29 3 (s.1.map GA3_i64.cells), .blk i155 ([0, 0, 0, 0].map (AV.int .i64)) 49] := S158
      obtain ⟨_, q164, wr267⟩ := obind wr267
      obtain ⟨_, q165, wr267⟩ := obind wr267
      obtain ⟨h161, os162, S163⟩ := S160.storeAll (P := Tryd.prog) 2 rfl (t := 49) sz_49 q164 q165
      simp only [List.map_cons, List.map_nil] at os162
      have S166 : Sep h [] h161 [.row u3 49 4 (([(⟨65, 90, 32, 0⟩ : GA4_i64), (⟨192, 222, 32, 215⟩ : GA4_i64), (⟨913, 937, 32, 930⟩ : GA4_i64), (⟨1024, 1039, 80, 0⟩ : GA4_i64), (⟨1040, 1071, 32, 0⟩ : GA4_i64)] : List GA4_i64).map GA4_i64.cells), .row u143 29 3 (s.1.map GA3_i64.cells), .blk i155 ([x149.x0, x149.x1, x149.x2, x149.x3].map (AV.int .i64)) 49] := S163
      refine AE_joinR (fun e h' => h161 = h' ∧ e.length = 49 ∧ e.getD 1 .undef = u143 ∧ e.getD 3 .undef = .ptr i155 0 ∧ e.getD 9 .undef = u3 ∧ e.getD 10 .undef = .int .i64 5 ∧ e.getD 11 .undef = .int .i64 s.2) (by
        simp only [↓WE, WA, WL, aop, ofValue, ofCell, isConst, abin, acall1, abuiltin, aun, AV.cells, AV.one, Nat.reduceAdd, Int.reduceLT, Int.reduceLE, ↓WD, W0, evalOp, Nat.reduceEqDiff, Nat.reduceLT, ↓reduceIte, reduceCtorEq, hl, e1, e9, e10, e11, e12, oi152, ol154, zero_49, oa157, os162]
        exact ⟨rfl, (by simp only [List.length_set, hl]), (by simp only [W0, Nat.reduceEqDiff, Nat.reduceLT, ↓reduceIte, hl, e1, e9, e10, e11, e12]), (by simp only [W0, Nat.reduceEqDiff, Nat.reduceLT, ↓reduceIte, hl, e1, e9, e10, e11, e12]), (by simp only [W0, Nat.reduceEqDiff, Nat.reduceLT, ↓reduceIte, hl, e1, e9, e10, e11, e12]), (by simp only [W0, Nat.reduceEqDiff, Nat.reduceLT, ↓reduceIte, hl, e1, e9, e10, e11, e12]), (by simp only [W0, Nat.reduceEqDiff, Nat.reduceLT, ↓reduceIte, hl, e1, e9, e10, e11, e12])⟩) ?_
      rintro envg167 _ ⟨rfl, hl, e1, e3, e9, e10, e11⟩
      try simp only [↓WD, W0, evalOp, Nat.reduceEqDiff, Nat.reduceLT, ↓reduceIte, reduceCtorEq, hl, e1, e3, e9, e10, e11]
      rw [AW_region]
      obtain ⟨_, q168, wr267⟩ := obind wr267
      have oi169 := ia_49 i155 0 .i64 (chkIdx_lo q168) (chkIdx_hi q168)
      obtain ⟨y171, qy171, wr267⟩ := obind wr267
      have ol170 := S166.load (P := Tryd.prog) 2 rfl (t := 3) (apart_idxA ag_3 qy171)
      refine AE_joinR (fun e h' => h161 = h' ∧ e.length = 49 ∧ e.getD 1 .undef = u143 ∧ e.getD 3 .undef = .ptr i155 0 ∧ e.getD 9 .undef = u3 ∧ e.getD 10 .undef = .int .i64 5 ∧ e.getD 11 .undef = .int .i64 s.2 ∧ e.getD 17 .undef = .bool (y171 == 0)) (by
        simp only [↓WE, WA, WL, aop, ofValue, ofCell, isConst, abin, acall1, abuiltin, aun, AV.cells, AV.one, Nat.reduceAdd, Int.reduceLT, Int.reduceLE, ↓WD, W0, evalOp, Nat.reduceEqDiff, Nat.reduceLT, ↓reduceIte, reduceCtorEq, hl, e1, e3, e9, e10, e11, oi169, ol170]
        exact ⟨rfl, (by simp only [List.length_set, hl]), (by simp only [W0, Nat.reduceEqDiff, Nat.reduceLT, ↓reduceIte, hl, e1, e3, e9, e10, e11]), (by simp only [W0, Nat.reduceEqDiff, Nat.reduceLT, ↓reduceIte, hl, e1, e3, e9, e10, e11]), (by simp only [W0, Nat.reduceEqDiff, Nat.reduceLT, ↓reduceIte, hl, e1, e3, e9, e10, e11]), (by simp only [W0, Nat.reduceEqDiff, Nat.reduceLT, ↓reduceIte, hl, e1, e3, e9, e10, e11]), (by simp only [W0, Nat.reduceEqDiff, Nat.reduceLT, ↓reduceIte, hl, e1, e3, e9, e10, e11]), (by simp only [W0, Nat.reduceEqDiff, Nat.reduceLT, ↓reduceIte, hl, e1, e3, e9, e10, e11])⟩) ?_
      rintro envg172 _ ⟨rfl, hl, e1, e3, e9, e10, e11, e17⟩
      try simp only [↓WD, W0, evalOp, Nat.reduceEqDiff, Nat.reduceLT, ↓reduceIte, reduceCtorEq, hl, e1, e3, e9, e10, e11, e17]
      refine CondK_boo (fun c200 => ?_) (fun c200 => ?_)
      · rw [if_pos c200] at wr267
        try simp only [↓WD, W0, evalOp, Nat.reduceEqDiff, Nat.reduceLT, ↓reduceIte, reduceCtorEq, hl, e1, e3, e9, e10, e11, e17]
        rw [AW_region]
        obtain ⟨_, q201, wr267⟩ := obind wr267
        have oi202 := ia_49 i155 0 .i64 (chkIdx_lo q201) (chkIdx_hi q201)
        obtain ⟨y204, qy204, wr267⟩ := obind wr267
        have ol203 := S166.load (P := Tryd.prog) 2 rfl (t := 3) (apart_idxA ag_3 qy204)
        obtain ⟨_, q205, wr267⟩ := obind wr267
        have oi206 := ia_49 i155 0 .i64 (chkIdx_lo q205) (chkIdx_hi q205)
        obtain ⟨y208, qy208, wr267⟩ := obind wr267
        have ol207 := S166.load (P := Tryd.prog) 2 rfl (t := 3) (apart_idxA ag_3 qy208)
        obtain ⟨_, q209, wr267⟩ := obind wr267
        have oi210 := ia_49 i155 0 .i64 (chkIdx_lo q209) (chkIdx_hi q209)
        obtain ⟨y212, qy212, wr267⟩ := obind wr267
        have ol211 := S166.load (P := Tryd.prog) 2 rfl (t := 3) (apart_idxA ag_3 qy212)
        obtain ⟨u213, h214, ob215, S216⟩ := Sep.build (P := Tryd.prog) sl_27 S166 [.agg [.int .i64 y204, .int .i64 y208, .int .i64 y212]] (([(⟨y204, y208, y212⟩ : GA3_i64)] : List GA3_i64).map GA3_i64.cells) rfl (by simp [GA3_i64.cells]) (by simp)
        have ob215 : abuildSlice Tryd.prog 27 1 [(0, .agg [.int .i64 y204, .int .i64 y208, .int .i64 y212])] h161 = some (u213, h214) := ob215
        have S218 : Sep h [] h214 [.row u3 49 4 (([(⟨65, 90, 32, 0⟩ : GA4_i64), (⟨192, 222, 32, 215⟩ : GA4_i64), (⟨913, 937, 32, 930⟩ : GA4_i64), (⟨1024, 1039, 80, 0⟩ : GA4_i64), (⟨1040, 1071, 32, 0⟩ : GA4_i64)] : List GA4_i64).map GA4_i64.cells), .row u143 29 3 (s.1.map GA3_i64.cells), .blk i155 ([x149.x0, x149.x1, x149.x2, x149.x3].map (AV.int .i64)) 49, .row u213 29 3 (([(⟨y204, y208, y212⟩ : GA3_i64)] : List GA3_i64).map GA3_i64.cells)] := S216
        obtain ⟨zs219, qzs219, wr267⟩ := obind wr267
        obtain ⟨u220, h221, op222, S223⟩ := Sep.append (P := Tryd.prog) (t' := 27) sl_27 (by rw [Tryd.underlying27]; rfl) S218 1 rfl (S218.row_ro (i := 3) rfl) (fun _ => rfl) qzs219
        have S224 : Sep h [] h221 [.row u3 49 4 (([(⟨65, 90, 32, 0⟩ : GA4_i64), (⟨192, 222, 32, 215⟩ : GA4_i64), (⟨913, 937, 32, 930⟩ : GA4_i64), (⟨1024, 1039, 80, 0⟩ : GA4_i64), (⟨1040, 1071, 32, 0⟩ : GA4_i64)] : List GA4_i64).map GA4_i64.cells), .row u220 29 3 (zs219.map GA3_i64.cells), .blk i155 ([x149.x0, x149.x1, x149.x2, x149.x3].map (AV.int .i64)) 49, .row u213 29 3 (([(⟨y204, y208, y212⟩ : GA3_i64)] : List GA3_i64).map GA3_i64.cells)] := S223
        refine AE_joinR (fun e h' => h221 = h' ∧ e.length = 49 ∧ e.getD 1 .undef = u220 ∧ e.getD 9 .undef = u3 ∧ e.getD 10 .undef = .int .i64 5 ∧ e.getD 11 .undef = .int .i64 s.2) (by
          simp only [↓WE, WA, WL, aop, ofValue, ofCell, isConst, abin, acall1, abuiltin, aun, AV.cells, AV.one, Nat.reduceAdd, Int.reduceLT, Int.reduceLE, ↓WD, W0, evalOp, Nat.reduceEqDiff, Nat.reduceLT, ↓reduceIte, reduceCtorEq, hl, e1, e3, e9, e10, e11, e17, oi202, ol203, oi206, ol207, oi210, ol211, bd_29_0_1_2, ob215, op222]
          exact ⟨rfl, (by simp only [List.length_set, hl]), (by simp only [W0, Nat.reduceEqDiff, Nat.reduceLT, ↓reduceIte, hl, e1, e3, e9, e10, e11, e17]), (by simp only [W0, Nat.reduceEqDiff, Nat.reduceLT, ↓reduceIte, hl, e1, e3, e9, e10, e11, e17]), (by simp only [W0, Nat.reduceEqDiff, Nat.reduceLT, ↓reduceIte, hl, e1, e3, e9, e10, e11, e17]), (by simp only [W0, Nat.reduceEqDiff, Nat.reduceLT, ↓reduceIte, hl, e1, e3, e9, e10, e11, e17])⟩) ?_
        rintro envg225 _ ⟨rfl, hl, e1, e9, e10, e11⟩
        try simp only [↓WD, W0, evalOp, Nat.reduceEqDiff, Nat.reduceLT, ↓reduceIte, reduceCtorEq, hl, e1, e9, e10, e11]
        rw [AW_region]
        refine AE_joinR (fun e h' => h221 = h' ∧ e.length = 49 ∧ e.getD 1 .undef = u220 ∧ e.getD 9 .undef = u3 ∧ e.getD 10 .undef = .int .i64 5 ∧ e.getD 11 .undef = .int .i64 (IntKind.i64.wrap (s.2 + 1))) (by
          simp only [↓WE, WA, WL, aop, ofValue, ofCell, isConst, abin, acall1, abuiltin, aun, AV.cells, AV.one, Nat.reduceAdd, Int.reduceLT, Int.reduceLE, ↓WD, W0, evalOp, Nat.reduceEqDiff, Nat.reduceLT, ↓reduceIte, reduceCtorEq, hl, e1, e9, e10, e11]
          exact ⟨rfl, (by simp only [List.length_set, hl]), (by simp only [W0, Nat.reduceEqDiff, Nat.reduceLT, ↓reduceIte, hl, e1, e9, e10, e11]), (by simp only [W0, Nat.reduceEqDiff, Nat.reduceLT, ↓reduceIte, hl, e1, e9, e10, e11]), (by simp only [W0, Nat.reduceEqDiff, Nat.reduceLT, ↓reduceIte, hl, e1, e9, e10, e11]), (by simp only [W0, Nat.reduceEqDiff, Nat.reduceLT, ↓reduceIte, hl, e1, e9, e10, e11])⟩) ?_
        rintro envg226 _ ⟨rfl, hl, e1, e9, e10, e11⟩
        try simp only [↓WD, W0, evalOp, Nat.reduceEqDiff, Nat.reduceLT, ↓reduceIte, reduceCtorEq, hl, e1, e9, e10, e11]
        obtain rfl := Option.some.inj wr267
        rw [KP_nil, QL_normal]
        exact ⟨_, rfl, u220, (by simp only [List.length_set, hl]), (by simp only [W0, Nat.reduceEqDiff, Nat.reduceLT, ↓reduceIte, hl, e1, e9, e10, e11]), (by simp only [W0, Nat.reduceEqDiff, Nat.reduceLT, ↓reduceIte, hl, e1, e9, e10, e11]), (by simp only [W0, Nat.reduceEqDiff, Nat.reduceLT, ↓reduceIte, hl, e1, e9, e10, e11]), (by simp only [W0, Nat.reduceEqDiff, Nat.reduceLT, ↓reduceIte, hl, e1, e9, e10, e11]), S224.pick [0, 1] (by decide) rfl⟩
      · rw [if_neg (nf c200)] at wr267
        try simp only [↓WD, W0, evalOp, Nat.reduceEqDiff, Nat.reduceLT, ↓reduceIte, reduceCtorEq, hl, e1, e3, e9, e10, e11, e17]
        rw [AW_region]
        obtain ⟨_, q227, wr267⟩ := obind wr267
        have oi228 := ia_49 i155 0 .i64 (chkIdx_lo q227) (chkIdx_hi q227)
        obtain ⟨y230, qy230, wr267⟩ := obind wr267
        have ol229 := S166.load (P := Tryd.prog) 2 rfl (t := 3) (apart_idxA ag_3 qy230)
        obtain ⟨_, q231, wr267⟩ := obind wr267
        have oi232 := ia_49 i155 0 .i64 (chkIdx_lo q231) (chkIdx_hi q231)
        have ol233 := S166.load (P := Tryd.prog) 2 rfl (t := 3) (apart_idxA ag_3 qy171)
        obtain ⟨_, q235, wr267⟩ := obind wr267
        have oi236 := ia_49 i155 0 .i64 (chkIdx_lo q235) (chkIdx_hi q235)
        obtain ⟨y238, qy238, wr267⟩ := obind wr267
        have ol237 := S166.load (P := Tryd.prog) 2 rfl (t := 3) (apart_idxA ag_3 qy238)
        obtain ⟨_, q239, wr267⟩ := obind wr267
        have oi240 := ia_49 i155 0 .i64 (chkIdx_lo q239) (chkIdx_hi q239)
        have ol241 := S166.load (P := Tryd.prog) 2 rfl (t := 3) (apart_idxA ag_3 qy171)
        obtain ⟨_, q243, wr267⟩ := obind wr267
        have oi244 := ia_49 i155 0 .i64 (chkIdx_lo q243) (chkIdx_hi q243)
        obtain ⟨y246, qy246, wr267⟩ := obind wr267
        have ol245 := S166.load (P := Tryd.prog) 2 rfl (t := 3) (apart_idxA ag_3 qy246)
        obtain ⟨_, q247, wr267⟩ := obind wr267
        have oi248 := ia_49 i155 0 .i64 (chkIdx_lo q247) (chkIdx_hi q247)
        have ol249 := S166.load (P := Tryd.prog) 2 rfl (t := 3) (apart_idxA ag_3 qy238)
        obtain ⟨u251, h252, ob253, S254⟩ := Sep.build (P := Tryd.prog) sl_27 S166 [.agg [.int .i64 y230, .int .i64 (IntKind.i64.wrap (y171 - 1)), .int .i64 y238], .agg [.int .i64 (IntKind.i64.wrap (y171 + 1)), .int .i64 y246, .int .i64 y238]] (([(⟨y230, IntKind.i64.wrap (y171 - 1), y238⟩ : GA3_i64), (⟨IntKind.i64.wrap (y171 + 1), y246, y238⟩ : GA3_i64)] : List GA3_i64).map GA3_i64.cells) rfl (by simp [GA3_i64.cells]) (by simp)
        have ob253 : abuildSlice Tryd.prog 27 2 [(0, .agg [.int .i64 y230, .int .i64 (IntKind.i64.wrap (y171 - 1)), .int .i64 y238]), (1, .agg [.int .i64 (IntKind.i64.wrap (y171 + 1)), .int .i64 y246, .int .i64 y238])] h161 = some (u251, h252) := ob253
        have S256 : Sep h [] h252 [.row u3 49 4 (([(⟨65, 90, 32, 0⟩ : GA4_i64), (⟨192, 222, 32, 215⟩ : GA4_i64), (⟨913, 937, 32, 930⟩ : GA4_i64), (⟨1024, 1039, 80, 0⟩ : GA4_i64), (⟨1040, 1071, 32, 0⟩ : GA4_i64)] : List GA4_i64).map GA4_i64.cells), .row u143 29 3 (s.1.map GA3_i64.cells), .blk i155 ([x149.x0, x149.x1, x149.x2, x149.x3].map (AV.int .i64)) 49, .row u251 29 3 (([(⟨y230, IntKind.i64.wrap (y171 - 1), y238⟩ : GA3_i64), (⟨IntKind.i64.wrap (y171 + 1), y246, y238⟩ : GA3_i64)] : List GA3_i64).map GA3_i64.cells)] := S254
        obtain ⟨zs257, qzs257, wr267⟩ := obind wr267
        obtain ⟨u258, h259, op260, S261⟩ := Sep.append (P := Tryd.prog) (t' := 27) sl_27 (by rw [Tryd.underlying27]; rfl) S256 1 rfl (S256.row_ro (i := 3) rfl) (fun _ => rfl) qzs257
        have S262 : Sep h [] h259 [.row u3 49 4 (([(⟨65, 90, 32, 0⟩ : GA4_i64), (⟨192, 222, 32, 215⟩ : GA4_i64), (⟨913, 937, 32, 930⟩ : GA4_i64), (⟨1024, 1039, 80, 0⟩ : GA4_i64), (⟨1040, 1071, 32, 0⟩ : GA4_i64)] : List GA4_i64).map GA4_i64.cells), .row u258 29 3 (zs257.map GA3_i64.cells), .blk i155 ([x149.x0, x149.x1, x149.x2, x149.x3].map (AV.int .i64)) 49, .row u251 29 3 (([(⟨y230, IntKind.i64.wrap (y171 - 1), y238⟩ : GA3_i64), (⟨IntKind.i64.wrap (y171 + 1), y246, y238⟩ : GA3_i64)] : List GA3_i64).map GA3_i64.cells)] := S261
        refine AE_joinR (fun e h' => h259 = h' ∧ e.length = 49 ∧ e.getD 1 .undef = u258 ∧ e.getD 9 .undef = u3 ∧ e.getD 10 .undef = .int .i64 5 ∧ e.getD 11 .undef = .int .i64 s.2) (by
          simp only [↓WE, WA, WL, aop, ofValue, ofCell, isConst, abin, acall1, abuiltin, aun, AV.cells, AV.one, Nat.reduceAdd, Int.reduceLT, Int.reduceLE, ↓WD, W0, evalOp, Nat.reduceEqDiff, Nat.reduceLT, ↓reduceIte, reduceCtorEq, hl, e1, e3, e9, e10, e11, e17, oi228, ol229, oi232, ol233, oi236, ol237, bd_29_0_1_2, oi240, ol241, oi244, ol245, oi248, ol249, ob253, op260]
          exact ⟨rfl, (by simp only [List.length_set, hl]), (by simp only [W0, Nat.reduceEqDiff, Nat.reduceLT, ↓reduceIte, hl, e1, e3, e9, e10, e11, e17]), (by simp only [W0, Nat.reduceEqDiff, Nat.reduceLT, ↓reduceIte, hl, e1, e3, e9, e10, e11, e17]), (by simp only [W0, Nat.reduceEqDiff, Nat.reduceLT, ↓reduceIte, hl, e1, e3, e9, e10, e11, e17]), (by simp only [W0, Nat.reduceEqDiff, Nat.reduceLT, ↓reduceIte, hl, e1, e3, e9, e10, e11, e17])⟩) ?_
        rintro envg263 _ ⟨rfl, hl, e1, e9, e10, e11⟩
        try simp only [↓WD, W0, evalOp, Nat.reduceEqDiff, Nat.reduceLT, ↓reduceIte, reduceCtorEq, hl, e1, e9, e10, e11]
        rw [AW_region]
        refine AE_joinR (fun e h' => h259 = h' ∧ e.length = 49 ∧ e.getD 1 .undef = u258 ∧ e.getD 9 .undef = u3 ∧ e.getD 10 .undef = .int .i64 5 ∧ e.getD 11 .undef = .int .i64 (IntKind.i64.wrap (s.2 + 1))) (by
          simp only [↓WE, WA, WL, aop, ofValue, ofCell, isConst, abin, acall1, abuiltin, aun, AV.cells, AV.one, Nat.reduceAdd, Int.reduceLT, Int.reduceLE, ↓WD, W0, evalOp, Nat.reduceEqDiff, Nat.reduceLT, ↓reduceIte, reduceCtorEq, hl, e1, e9, e10, e11]
          exact ⟨rfl, (by simp only [List.length_set, hl]), (by simp only [W0, Nat.reduceEqDiff, Nat.reduceLT, ↓reduceIte, hl, e1, e9, e10, e11]), (by simp only [W0, Nat.reduceEqDiff, Nat.reduceLT, ↓reduceIte, hl, e1, e9, e10, e11]), (by simp only [W0, Nat.reduceEqDiff, Nat.reduceLT, ↓reduceIte, hl, e1, e9, e10, e11]), (by simp only [W0, Nat.reduceEqDiff, Nat.reduceLT, ↓reduceIte, hl, e1, e9, e10, e11])⟩) ?_
        rintro envg264 _ ⟨rfl, hl, e1, e9, e10, e11⟩
        try simp only [↓WD, W0, evalOp, Nat.reduceEqDiff, Nat.reduceLT, ↓reduceIte, reduceCtorEq, hl, e1, e9, e10, e11]
        obtain rfl := Option.some.inj wr267
        rw [KP_nil, QL_normal]
        exact ⟨_, rfl, u258, (by simp only [List.length_set, hl]), (by simp only [W0, Nat.reduceEqDiff, Nat.reduceLT, ↓reduceIte, hl, e1, e9, e10, e11]), (by simp only [W0, Nat.reduceEqDiff, Nat.reduceLT, ↓reduceIte, hl, e1, e9, e10, e11]), (by simp only [W0, Nat.reduceEqDiff, Nat.reduceLT, ↓reduceIte, hl, e1, e9, e10, e11]), (by simp only [W0, Nat.reduceEqDiff, Nat.reduceLT, ↓reduceIte, hl, e1, e9, e10, e11]), S262.pick [0, 1] (by decide) rfl⟩
    · rw [if_neg c148] at wr267
      try simp only [↓WD, W0, evalOp, Nat.reduceEqDiff, Nat.reduceLT, ↓reduceIte, reduceCtorEq, hl, e1, e9, e10, e11, e12]
      obtain rfl := Option.some.inj wr267
      rw [KP_nil, QL_exit]
      exact ⟨_, rfl, u143, rfl, (by simp only [List.length_set, hl]), (by simp only [W0, Nat.reduceEqDiff, Nat.reduceLT, ↓reduceIte, hl, e1, e9, e10, e11, e12]), S145.pick [1] (by decide) rfl⟩
  · exact ⟨.val (.slice none 0 0), (by simp only [List.length_set, hl]), (by simp only [W0, Nat.reduceEqDiff, Nat.reduceLT, ↓reduceIte, hl, e1, e9, e10, e11]), (by simp only [W0, Nat.reduceEqDiff, Nat.reduceLT, ↓reduceIte, hl, e1, e9, e10, e11]), (by simp only [W0, Nat.reduceEqDiff, Nat.reduceLT, ↓reduceIte, hl, e1, e9, e10, e11]), (by simp only [W0, Nat.reduceEqDiff, Nat.reduceLT, ↓reduceIte, hl, e1, e9, e10, e11]), S139⟩
  · rintro x envr267 h269 ⟨u268, rfl, hl, e1, S270⟩
    try simp only [↓WD, W0, evalOp, Nat.reduceEqDiff, Nat.reduceLT, ↓reduceIte, reduceCtorEq, hl, e1]
    rw [AW_region]
    refine AE_joinR (fun e h' => h269 = h' ∧ e.length = 49 ∧ e.getD 0 .undef = u268) (by
      simp only [↓WE, WA, WL, aop, ofValue, ofCell, isConst, abin, acall1, abuiltin, aun, AV.cells, AV.one, Nat.reduceAdd, Int.reduceLT, Int.reduceLE, ↓WD, W0, evalOp, Nat.reduceEqDiff, Nat.reduceLT, ↓reduceIte, reduceCtorEq, hl, e1]
      exact ⟨rfl, (by simp only [List.length_set, hl]), (by simp only [W0, Nat.reduceEqDiff, Nat.reduceLT, ↓reduceIte, hl, e1])⟩) ?_
    rintro envg271 _ ⟨rfl, hl, e0⟩
    try simp only [↓WD, W0, evalOp, Nat.reduceEqDiff, Nat.reduceLT, ↓reduceIte, reduceCtorEq, hl, e0]
    refine KP_ret (vs := [u268]) (by simp only [aresults, aresult, gs, List.length_set, Nat.reduceEqDiff, Nat.reduceLT, ↓reduceIte, hl, e0]) ?_
    obtain rfl := Option.some.inj hF
    exact ⟨u268, rfl, S270⟩
set_option maxRecDepth 100000 in
set_option maxHeartbeats 4000000 in
theorem W_fold_Small_1 {K : PureK} (n20 : K 20 = none) (m : Nat) (hm : NF + 1 ≤ m) (h : AH) (r_0 r_1 r_2 : Int) (code : Int) {r : Int} (hF : F_fold_Small_1 [r_0, r_1, r_2] code = some r) :
    AR (acall Tryd.prog (hooksOf K) (drawnOf Tryd.prog (tabOf K)) m 20 [.agg [.int .i64 r_0, .int .i64 r_1, .int .i64 r_2], .int .i64 code] h) (fun v h' => v = .int .i64 r) := by
  obtain ⟨m, rfl⟩ : ∃ k, m = k + 1 := ⟨m - 1, by omega⟩
  refine AR_call (hooksOf_none n20) Tryd.func20 rfl _ _ fun env hl he => ?_
  have e0 := he 0
  have e1 := he 1
  simp only [List.getD_cons_zero, List.getD_cons_succ] at e0 e1
  simp only [Tryd.f20] at hl ⊢
  simp only [List.length_cons, List.length_nil, Nat.reduceAdd, Nat.reduceSub] at hl
  clear he
  have S0 : Sep h [] h [] := Sep.nil h
  rw [F_fold_Small_1] at hF
  try simp only [↓WD, W0, evalOp, Nat.reduceEqDiff, Nat.reduceLT, ↓reduceIte, reduceCtorEq, hl, e0, e1]
  rw [AW_region]
  obtain ⟨i1, h2, oa3, S4⟩ := S0.alloc 29 [.int .i64 r_0, .int .i64 r_1, .int .i64 r_2]
  have S6 : Sep h [] h2 [.blk i1 ([r_0, r_1, r_2].map (AV.int .i64)) 29] := S4
  refine AE_joinR (fun e h' => h2 = h' ∧ e.length = 15 ∧ e.getD 1 .undef = .int .i64 code ∧ e.getD 2 .undef = .ptr i1 0) (by
    simp only [↓WE, WA, WL, aop, ofValue, ofCell, isConst, abin, acall1, abuiltin, aun, AV.cells, AV.one, Nat.reduceAdd, Int.reduceLT, Int.reduceLE, ↓WD, W0, evalOp, Nat.reduceEqDiff, Nat.reduceLT, ↓reduceIte, reduceCtorEq, hl, e0, e1, oa3]
    exact ⟨rfl, (by simp only [List.length_set, hl]), (by simp only [W0, Nat.reduceEqDiff, Nat.reduceLT, ↓reduceIte, hl, e0, e1]), (by simp only [W0, Nat.reduceEqDiff, Nat.reduceLT, ↓reduceIte, hl, e0, e1])⟩) ?_
  rintro envg7 _ ⟨rfl, hl, e1, e2⟩
  try simp only [↓WD, W0, evalOp, Nat.reduceEqDiff, Nat.reduceLT, ↓reduceIte, reduceCtorEq, hl, e1, e2]
  rw [AW_region]
  obtain ⟨_, q8, hF⟩ := obind hF
  have oi9 := ia_29 i1 0 .i64 (chkIdx_lo q8) (chkIdx_hi q8)
  obtain ⟨y11, qy11, hF⟩ := obind hF
  have ol10 := S6.load (P := Tryd.prog) 0 rfl (t := 3) (apart_idxA ag_3 qy11)
  refine AE_joinR (fun e h' => h2 = h' ∧ e.length = 15 ∧ e.getD 1 .undef = .int .i64 code ∧ e.getD 2 .undef = .ptr i1 0 ∧ e.getD 5 .undef = .bool (decide (y11 < code))) (by
    simp only [↓WE, WA, WL, aop, ofValue, ofCell, isConst, abin, acall1, abuiltin, aun, AV.cells, AV.one, Nat.reduceAdd, Int.reduceLT, Int.reduceLE, ↓WD, W0, evalOp, Nat.reduceEqDiff, Nat.reduceLT, ↓reduceIte, reduceCtorEq, hl, e1, e2, oi9, ol10]
    exact ⟨rfl, (by simp only [List.length_set, hl]), (by simp only [W0, Nat.reduceEqDiff, Nat.reduceLT, ↓reduceIte, hl, e1, e2]), (by simp only [W0, Nat.reduceEqDiff, Nat.reduceLT, ↓reduceIte, hl, e1, e2]), (by simp only [W0, Nat.reduceEqDiff, Nat.reduceLT, ↓reduceIte, hl, e1, e2])⟩) ?_
  rintro envg12 _ ⟨rfl, hl, e1, e2, e5⟩
  try simp only [↓WD, W0, evalOp, Nat.reduceEqDiff, Nat.reduceLT, ↓reduceIte, reduceCtorEq, hl, e1, e2, e5]
  refine CondK_dec (fun c24 => ?_) (fun c24 => ?_)
  · rw [if_pos c24] at hF
    try simp only [↓WD, W0, evalOp, Nat.reduceEqDiff, Nat.reduceLT, ↓reduceIte, reduceCtorEq, hl, e1, e2, e5]
    rw [AW_region]
    refine AE_joinR (fun e h' => h2 = h' ∧ e.length = 15 ∧ e.getD 4 .undef = .int .i64 (-1)) (by
      simp only [↓WE, WA, WL, aop, ofValue, ofCell, isConst, abin, acall1, abuiltin, aun, AV.cells, AV.one, Nat.reduceAdd, Int.reduceLT, Int.reduceLE, ↓WD, W0, evalOp, Nat.reduceEqDiff, Nat.reduceLT, ↓reduceIte, reduceCtorEq, hl, e1, e2, e5]
      exact ⟨rfl, (by simp only [List.length_set, hl]), (by simp only [W0, Nat.reduceEqDiff, Nat.reduceLT, ↓reduceIte, hl, e1, e2, e5])⟩) ?_
    rintro envg25 _ ⟨rfl, hl, e4⟩
    try simp only [↓WD, W0, evalOp, Nat.reduceEqDiff, Nat.reduceLT, ↓reduceIte, reduceCtorEq, hl, e4]
    refine KP_ret (vs := [.int .i64 (-1)]) (by simp only [aresults, aresult, gs, List.length_set, Nat.reduceEqDiff, Nat.reduceLT, ↓reduceIte, hl, e4]) ?_
    obtain rfl := Option.some.inj hF
    exact rfl
  · rw [if_neg c24] at hF
    try simp only [↓WD, W0, evalOp, Nat.reduceEqDiff, Nat.reduceLT, ↓reduceIte, reduceCtorEq, hl, e1, e2, e5]
    rw [AW_region]
    obtain ⟨_, q26, hF⟩ := obind hF
    have oi27 := ia_29 i1 0 .i64 (chkIdx_lo q26) (chkIdx_hi q26)
    obtain ⟨y29, qy29, hF⟩ := obind hF
    have ol28 := S6.load (P := Tryd.prog) 0 rfl (t := 3) (apart_idxA ag_3 qy29)
    refine AE_joinR (fun e h' => h2 = h' ∧ e.length = 15 ∧ e.getD 10 .undef = .bool (decide (y29 > code))) (by
      simp only [↓WE, WA, WL, aop, ofValue, ofCell, isConst, abin, acall1, abuiltin, aun, AV.cells, AV.one, Nat.reduceAdd, Int.reduceLT, Int.reduceLE, ↓WD, W0, evalOp, Nat.reduceEqDiff, Nat.reduceLT, ↓reduceIte, reduceCtorEq, hl, e1, e2, e5, oi27, ol28]
      exact ⟨rfl, (by simp only [List.length_set, hl]), (by simp only [W0, Nat.reduceEqDiff, Nat.reduceLT, ↓reduceIte, hl, e1, e2, e5])⟩) ?_
    rintro envg30 _ ⟨rfl, hl, e10⟩
    try simp only [↓WD, W0, evalOp, Nat.reduceEqDiff, Nat.reduceLT, ↓reduceIte, reduceCtorEq, hl, e10]
    refine CondK_dec (fun c33 => ?_) (fun c33 => ?_)
    · rw [if_pos c33] at hF
      try simp only [↓WD, W0, evalOp, Nat.reduceEqDiff, Nat.reduceLT, ↓reduceIte, reduceCtorEq, hl, e10]
      rw [AW_region]
      refine AE_joinR (fun e h' => h2 = h' ∧ e.length = 15 ∧ e.getD 4 .undef = .int .i64 1) (by
        simp only [↓WE, WA, WL, aop, ofValue, ofCell, isConst, abin, acall1, abuiltin, aun, AV.cells, AV.one, Nat.reduceAdd, Int.reduceLT, Int.reduceLE, ↓WD, W0, evalOp, Nat.reduceEqDiff, Nat.reduceLT, ↓reduceIte, reduceCtorEq, hl, e10]
        exact ⟨rfl, (by simp only [List.length_set, hl]), (by simp only [W0, Nat.reduceEqDiff, Nat.reduceLT, ↓reduceIte, hl, e10])⟩) ?_
      rintro envg34 _ ⟨rfl, hl, e4⟩
      try simp only [↓WD, W0, evalOp, Nat.reduceEqDiff, Nat.reduceLT, ↓reduceIte, reduceCtorEq, hl, e4]
      refine KP_ret (vs := [.int .i64 1]) (by simp only [aresults, aresult, gs, List.length_set, Nat.reduceEqDiff, Nat.reduceLT, ↓reduceIte, hl, e4]) ?_
      obtain rfl := Option.some.inj hF
      exact rfl
    · rw [if_neg c33] at hF
      try simp only [↓WD, W0, evalOp, Nat.reduceEqDiff, Nat.reduceLT, ↓reduceIte, reduceCtorEq, hl, e10]
      rw [AW_region]
      refine AE_joinR (fun e h' => h2 = h' ∧ e.length = 15 ∧ e.getD 4 .undef = .int .i64 0) (by
        simp only [↓WE, WA, WL, aop, ofValue, ofCell, isConst, abin, acall1, abuiltin, aun, AV.cells, AV.one, Nat.reduceAdd, Int.reduceLT, Int.reduceLE, ↓WD, W0, evalOp, Nat.reduceEqDiff, Nat.reduceLT, ↓reduceIte, reduceCtorEq, hl, e10]
        exact ⟨rfl, (by simp only [List.length_set, hl]), (by simp only [W0, Nat.reduceEqDiff, Nat.reduceLT, ↓reduceIte, hl, e10])⟩) ?_
      rintro envg35 _ ⟨rfl, hl, e4⟩
      try simp only [↓WD, W0, evalOp, Nat.reduceEqDiff, Nat.reduceLT, ↓reduceIte, reduceCtorEq, hl, e4]
      refine KP_ret (vs := [.int .i64 0]) (by simp only [aresults, aresult, gs, List.length_set, Nat.reduceEqDiff, Nat.reduceLT, ↓reduceIte, hl, e4]) ?_
      obtain rfl := Option.some.inj hF
      exact rfl
set_option maxRecDepth 100000 in
set_option maxHeartbeats 4000000 in
theorem W_slices_BinarySearchFunc_3_int_3_int_int_20 {K : PureK} (k20 : K 20 = some kf_20) (n19 : K 19 = none) (m : Nat) (hm : NF + 1 ≤ m) (h : AH) (ux_ : AV) (x_ : List GA3_i64) (hux_ : RO 3 ux_ h (x_.map GA3_i64.cells)) (target : Int) {r : Int × Bool} (hF : F_slices_BinarySearchFunc_3_int_3_int_int_20 x_ target = some r) :
    AR (acall Tryd.prog (hooksOf K) (drawnOf Tryd.prog (tabOf K)) m 19 [ux_, .int .i64 target, .func (.func 20) [] []] h) (fun v h' => v = .tup [.int .i64 r.1, .bool r.2] ∧ Sep h [] h' []) := by
  obtain ⟨m, rfl⟩ : ∃ k, m = k + 1 := ⟨m - 1, by omega⟩
  refine AR_call (hooksOf_none n19) Tryd.func19 rfl _ _ fun env hl he => ?_
  have e0 := he 0
  have e1 := he 1
  have e2 := he 2
  simp only [List.getD_cons_zero, List.getD_cons_succ] at e0 e1 e2
  simp only [Tryd.f19] at hl ⊢
  simp only [List.length_cons, List.length_nil, Nat.reduceAdd, Nat.reduceSub] at hl
  clear he
  have S0 : Sep h [] h [] := Sep.nil h
  rw [F_slices_BinarySearchFunc_3_int_3_int_int_20] at hF
  try simp only [↓WD, W0, evalOp, Nat.reduceEqDiff, Nat.reduceLT, ↓reduceIte, reduceCtorEq, hl, e0, e1, e2]
  rw [AW_region]
  refine AE_joinR (fun e h' => h = h' ∧ e.length = 49 ∧ e.getD 0 .undef = ux_ ∧ e.getD 1 .undef = .int .i64 target ∧ e.getD 2 .undef = .func (.func 20) [] []) (by
    simp only [↓WE, WA, WL, aop, ofValue, ofCell, isConst, abin, acall1, abuiltin, aun, AV.cells, AV.one, Nat.reduceAdd, Int.reduceLT, Int.reduceLE, ↓WD, W0, evalOp, Nat.reduceEqDiff, Nat.reduceLT, ↓reduceIte, reduceCtorEq, hl, e0, e1, e2]
    exact ⟨rfl, (by simp only [List.length_set, hl]), (by simp only [W0, Nat.reduceEqDiff, Nat.reduceLT, ↓reduceIte, hl, e0, e1, e2]), (by simp only [W0, Nat.reduceEqDiff, Nat.reduceLT, ↓reduceIte, hl, e0, e1, e2]), (by simp only [W0, Nat.reduceEqDiff, Nat.reduceLT, ↓reduceIte, hl, e0, e1, e2])⟩) ?_
  rintro envg1 _ ⟨rfl, hl, e0, e1, e2⟩
  try simp only [↓WD, W0, evalOp, Nat.reduceEqDiff, Nat.reduceLT, ↓reduceIte, reduceCtorEq, hl, e0, e1, e2]
  rw [AW_region]
  have ol2 := RO.len (P := Tryd.prog) sl_27 (S0.ro hux_)
  rw [List.length_map] at ol2
  refine AE_joinR (fun e h' => h = h' ∧ e.length = 49 ∧ e.getD 0 .undef = ux_ ∧ e.getD 1 .undef = .int .i64 target ∧ e.getD 2 .undef = .func (.func 20) [] [] ∧ e.getD 8 .undef = .int .i64 (x_.length : Int)) (by
    simp only [↓WE, WA, WL, aop, ofValue, ofCell, isConst, abin, acall1, abuiltin, aun, AV.cells, AV.one, Nat.reduceAdd, Int.reduceLT, Int.reduceLE, ↓WD, W0, evalOp, Nat.reduceEqDiff, Nat.reduceLT, ↓reduceIte, reduceCtorEq, hl, e0, e1, e2, ol2]
    exact ⟨rfl, (by simp only [List.length_set, hl]), (by simp only [W0, Nat.reduceEqDiff, Nat.reduceLT, ↓reduceIte, hl, e0, e1, e2]), (by simp only [W0, Nat.reduceEqDiff, Nat.reduceLT, ↓reduceIte, hl, e0, e1, e2]), (by simp only [W0, Nat.reduceEqDiff, Nat.reduceLT, ↓reduceIte, hl, e0, e1, e2]), (by simp only [W0, Nat.reduceEqDiff, Nat.reduceLT, ↓reduceIte, hl, e0, e1, e2])⟩) ?_
  rintro envg3 _ ⟨rfl, hl, e0, e1, e2, e8⟩
  try simp only [↓WD, W0, evalOp, Nat.reduceEqDiff, Nat.reduceLT, ↓reduceIte, reduceCtorEq, hl, e0, e1, e2, e8]
  rw [AW_region]
  refine AE_joinR (fun e h' => h = h' ∧ e.length = 49 ∧ e.getD 0 .undef = ux_ ∧ e.getD 1 .undef = .int .i64 target ∧ e.getD 2 .undef = .func (.func 20) [] [] ∧ e.getD 8 .undef = .int .i64 (x_.length : Int) ∧ e.getD 9 .undef = .int .i64 0 ∧ e.getD 10 .undef = .int .i64 (x_.length : Int)) (by
    simp only [↓WE, WA, WL, aop, ofValue, ofCell, isConst, abin, acall1, abuiltin, aun, AV.cells, AV.one, Nat.reduceAdd, Int.reduceLT, Int.reduceLE, ↓WD, W0, evalOp, Nat.reduceEqDiff, Nat.reduceLT, ↓reduceIte, reduceCtorEq, hl, e0, e1, e2, e8]
    exact ⟨rfl, (by simp only [List.length_set, hl]), (by simp only [W0, Nat.reduceEqDiff, Nat.reduceLT, ↓reduceIte, hl, e0, e1, e2, e8]), (by simp only [W0, Nat.reduceEqDiff, Nat.reduceLT, ↓reduceIte, hl, e0, e1, e2, e8]), (by simp only [W0, Nat.reduceEqDiff, Nat.reduceLT, ↓reduceIte, hl, e0, e1, e2, e8]), (by simp only [W0, Nat.reduceEqDiff, Nat.reduceLT, ↓reduceIte, hl, e0, e1, e2, e8]), (by simp only [W0, Nat.reduceEqDiff, Nat.reduceLT, ↓reduceIte, hl, e0, e1, e2, e8]), (by simp only [W0, Nat.reduceEqDiff, Nat.reduceLT, ↓reduceIte, hl, e0, e1, e2, e8])⟩) ?_
  rintro envg4 _ ⟨rfl, hl, e0, e1, e2, e8, e9, e10⟩
  try simp only [↓WD, W0, evalOp, Nat.reduceEqDiff, Nat.reduceLT, ↓reduceIte, reduceCtorEq, hl, e0, e1, e2, e8, e9, e10]
  obtain ⟨r53, qr53, hF⟩ := obind hF
  refine AW_lift (L_slices_BinarySearchFunc_3_int_3_int_int_20_1 x_ target) (fun s e h' => e.length = 49 ∧ e.getD 0 .undef = ux_ ∧ e.getD 1 .undef = .int .i64 target ∧ e.getD 2 .undef = .func (.func 20) [] [] ∧ e.getD 8 .undef = .int .i64 (x_.length : Int) ∧ e.getD 9 .undef = .int .i64 s.1 ∧ e.getD 10 .undef = .int .i64 s.2 ∧ Sep h [] h' []) (fun r53 x e h' => x = .exit 0 ∧ e.length = 49 ∧ e.getD 0 .undef = ux_ ∧ e.getD 1 .undef = .int .i64 target ∧ e.getD 2 .undef = .func (.func 20) [] [] ∧ e.getD 8 .undef = .int .i64 (x_.length : Int) ∧ e.getD 9 .undef = .int .i64 r53 ∧ Sep h [] h' []) qr53 (by omega) ?_ ?_ ?_
  · rintro s envr53 h29 or53 ⟨hl, e0, e1, e2, e8, e9, e10, S30⟩ wr53
    rw [L_slices_BinarySearchFunc_3_int_3_int_int_20_1] at wr53
    try simp only [↓WD, W0, evalOp, Nat.reduceEqDiff, Nat.reduceLT, ↓reduceIte, reduceCtorEq, hl, e0, e1, e2, e8, e9, e10]
    rw [AW_region]
    refine AE_joinR (fun e h' => h29 = h' ∧ e.length = 49 ∧ e.getD 0 .undef = ux_ ∧ e.getD 1 .undef = .int .i64 target ∧ e.getD 2 .undef = .func (.func 20) [] [] ∧ e.getD 8 .undef = .int .i64 (x_.length : Int) ∧ e.getD 9 .undef = .int .i64 s.1 ∧ e.getD 10 .undef = .int .i64 s.2 ∧ e.getD 17 .undef = .bool (decide (s.1 < s.2))) (by
      simp only [↓WE, WA, WL, aop, ofValue, ofCell, isConst, abin, acall1, abuiltin, aun, AV.cells, AV.one, Nat.reduceAdd, Int.reduceLT, Int.reduceLE, ↓WD, W0, evalOp, Nat.reduceEqDiff, Nat.reduceLT, ↓reduceIte, reduceCtorEq, hl, e0, e1, e2, e8, e9, e10]
      exact ⟨rfl, (by simp only [List.length_set, hl]), (by simp only [W0, Nat.reduceEqDiff, Nat.reduceLT, ↓reduceIte, hl, e0, e1, e2, e8, e9, e10]), (by simp only [W0, Nat.reduceEqDiff, Nat.reduceLT, ↓reduceIte, hl, e0, e1, e2, e8, e9, e10]), (by simp only [W0, Nat.reduceEqDiff, Nat.reduceLT, ↓reduceIte, hl, e0, e1, e2, e8, e9, e10]), (by simp only [W0, Nat.reduceEqDiff, Nat.reduceLT, ↓reduceIte, hl, e0, e1, e2, e8, e9, e10]), (by simp only [W0, Nat.reduceEqDiff, Nat.reduceLT, ↓reduceIte, hl, e0, e1, e2, e8, e9, e10]), (by simp only [W0, Nat.reduceEqDiff, Nat.reduceLT, ↓reduceIte, hl, e0, e1, e2, e8, e9, e10]), (by simp only [W0, Nat.reduceEqDiff, Nat.reduceLT, ↓reduceIte, hl, e0, e1, e2, e8, e9, e10])⟩) ?_
    rintro envg31 _ ⟨rfl, hl, e0, e1, e2, e8, e9, e10, e17⟩
    try simp only [↓WD, W0, evalOp, Nat.reduceEqDiff, Nat.reduceLT, ↓reduceIte, reduceCtorEq, hl, e0, e1, e2, e8, e9, e10, e17]
    refine CondK_dec (fun c33 => ?_) (fun c33 => ?_)
    · rw [if_pos c33] at wr53
      try simp only [↓WD, W0, evalOp, Nat.reduceEqDiff, Nat.reduceLT, ↓reduceIte, reduceCtorEq, hl, e0, e1, e2, e8, e9, e10, e17]
      rw [AW_region]
      have oc34 := fun g : AH => aconv_int (P := Tryd.prog) (h := g) (n := IntKind.i64.wrap (s.1 + s.2)) (k' := .i64) Tryd.underlying3 Tryd.underlying55
      obtain ⟨y35, qy35, wr53⟩ := obind wr53
      have oy35 := shr_int (k := .u64) qy35
      have oc36 := fun g : AH => aconv_int (P := Tryd.prog) (h := g) (n := y35) (k' := .u64) Tryd.underlying55 Tryd.underlying3
      refine AE_joinR (fun e h' => h29 = h' ∧ e.length = 49 ∧ e.getD 0 .undef = ux_ ∧ e.getD 1 .undef = .int .i64 target ∧ e.getD 2 .undef = .func (.func 20) [] [] ∧ e.getD 8 .undef = .int .i64 (x_.length : Int) ∧ e.getD 9 .undef = .int .i64 s.1 ∧ e.getD 10 .undef = .int .i64 s.2 ∧ e.getD 11 .undef = .int .i64 (IntKind.i64.wrap y35)) (by
        simp only [↓WE, WA, WL, aop, ofValue, ofCell, isConst, abin, acall1, abuiltin, aun, AV.cells, AV.one, Nat.reduceAdd, Int.reduceLT, Int.reduceLE, ↓WD, W0, evalOp, Nat.reduceEqDiff, Nat.reduceLT, ↓reduceIte, reduceCtorEq, hl, e0, e1, e2, e8, e9, e10, e17, oc34, oy35, oc36]
        exact ⟨rfl, (by simp only [List.length_set, hl]), (by simp only [W0, Nat.reduceEqDiff, Nat.reduceLT, ↓reduceIte, hl, e0, e1, e2, e8, e9, e10, e17]), (by simp only [W0, Nat.reduceEqDiff, Nat.reduceLT, ↓reduceIte, hl, e0, e1, e2, e8, e9, e10, e17]), (by simp only [W0, Nat.reduceEqDiff, Nat.reduceLT, ↓reduceIte, hl, e0, e1, e2, e8, e9, e10, e17]), (by simp only [W0, Nat.reduceEqDiff, Nat.reduceLT, ↓reduceIte, hl, e0, e1, e2, e8, e9, e10, e17]), (by simp only [W0, Nat.reduceEqDiff, Nat.reduceLT, ↓reduceIte, hl, e0, e1, e2, e8, e9, e10, e17]), (by simp only [W0, Nat.reduceEqDiff, Nat.reduceLT, ↓reduceIte, hl, e0, e1, e2, e8, e9, e10, e17]), (by simp only [W0, Nat.reduceEqDiff, Nat.reduceLT, ↓reduceIte, hl, e0, e1, e2, e8, e9, e10, e17])⟩) ?_
      rintro envg37 _ ⟨rfl, hl, e0, e1, e2, e8, e9, e10, e11⟩
      try simp only [↓WD, W0, evalOp, Nat.reduceEqDiff, Nat.reduceLT, ↓reduceIte, reduceCtorEq, hl, e0, e1, e2, e8, e9, e10, e11]
      rw [AW_region]
      obtain ⟨x38, qx38, wr53⟩ := obind wr53
      obtain ⟨i39, off40, oi41, hp42⟩ := RO.addr (P := Tryd.prog) sl_27 (S30.ro hux_) qx38
      have ol43 := RO.ld (P := Tryd.prog) (S30.ro hux_) hp42 qx38 (t := 29) (o := 0) (v := .agg [.int .i64 x38.x0, .int .i64 x38.x1, .int .i64 x38.x2]) (by omega) (by simp only [apart, ag_29, sz_29]; rfl)
      simp only [Nat.add_zero] at ol43
      obtain ⟨y44, qy44, wr53⟩ := obind wr53
      have og45 := fun (D : Drawn) (n : Nat) (g : AH) => call_hook (P := Tryd.prog) (D := D) k20 n (args := [.agg [.int .i64 x38.x0, .int .i64 x38.x1, .int .i64 x38.x2], .int .i64 target]) (v := .int .i64 y44) ((kf_20_eq x38.x0 x38.x1 x38.x2 target).trans (by rw [qy44]; rfl)) g
      refine AE_joinR (fun e h' => h29 = h' ∧ e.length = 49 ∧ e.getD 0 .undef = ux_ ∧ e.getD 1 .undef = .int .i64 target ∧ e.getD 2 .undef = .func (.func 20) [] [] ∧ e.getD 8 .undef = .int .i64 (x_.length : Int) ∧ e.getD 9 .undef = .int .i64 s.1 ∧ e.getD 10 .undef = .int .i64 s.2 ∧ e.getD 11 .undef = .int .i64 (IntKind.i64.wrap y35) ∧ e.getD 31 .undef = .bool (decide (y44 < 0))) (by
        simp only [↓WE, WA, WL, aop, ofValue, ofCell, isConst, abin, acall1, abuiltin, aun, AV.cells, AV.one, Nat.reduceAdd, Int.reduceLT, Int.reduceLE, ↓WD, W0, evalOp, Nat.reduceEqDiff, Nat.reduceLT, ↓reduceIte, reduceCtorEq, hl, e0, e1, e2, e8, e9, e10, e11, oi41, ol43, og45]
        exact ⟨rfl, (by simp only [List.length_set, hl]), (by simp only [W0, Nat.reduceEqDiff, Nat.reduceLT, ↓reduceIte, hl, e0, e1, e2, e8, e9, e10, e11]), (by simp only [W0, Nat.reduceEqDiff, Nat.reduceLT, ↓reduceIte, hl, e0, e1, e2, e8, e9, e10, e11]), (by simp only [W0, Nat.reduceEqDiff, Nat.reduceLT, ↓reduceIte, hl, e0, e1, e2, e8, e9, e10, e11]), (by simp only [W0, Nat.reduceEqDiff, Nat.reduceLT, ↓reduceIte, hl, e0, e1, e2, e8, e9, e10, e11]), (by simp only [W0, Nat.reduceEqDiff, Nat.reduceLT, ↓reduceIte, hl, e0, e1, e2, e8, e9, e10, e11]), (by simp only [W0, Nat.reduceEqDiff, Nat.reduceLT, ↓reduceIte, hl, e0, e1, e2, e8, e9, e10, e11]), (by simp only [W0, Nat.reduceEqDiff, Nat.reduceLT, ↓reduceIte, hl, e0, e1, e2, e8, e9, e10, e11]), (by simp only [W0, Nat.reduceEqDiff, Nat.reduceLT, ↓reduceIte, hl, e0, e1, e2, e8, e9, e10, e11])⟩) ?_
      rintro envg46 _ ⟨rfl, hl, e0, e1, e2, e8, e9, e10, e11, e31⟩
      try simp only [↓WD, W0, evalOp, Nat.reduceEqDiff, Nat.reduceLT, ↓reduceIte, reduceCtorEq, hl, e0, e1, e2, e8, e9, e10, e11, e31]
      refine CondK_dec (fun c50 => ?_) (fun c50 => ?_)
      · rw [if_pos c50] at wr53
        try simp only [↓WD, W0, evalOp, Nat.reduceEqDiff, Nat.reduceLT, ↓reduceIte, reduceCtorEq, hl, e0, e1, e2, e8, e9, e10, e11, e31]
        rw [AW_region]
        refine AE_joinR (fun e h' => h29 = h' ∧ e.length = 49 ∧ e.getD 0 .undef = ux_ ∧ e.getD 1 .undef = .int .i64 target ∧ e.getD 2 .undef = .func (.func 20) [] [] ∧ e.getD 8 .undef = .int .i64 (x_.length : Int) ∧ e.getD 9 .undef = .int .i64 (IntKind.i64.wrap ((IntKind.i64.wrap y35) + 1)) ∧ e.getD 10 .undef = .int .i64 s.2) (by
          simp only [↓WE, WA, WL, aop, ofValue, ofCell, isConst, abin, acall1, abuiltin, aun, AV.cells, AV.one, Nat.reduceAdd, Int.reduceLT, Int.reduceLE, ↓WD, W0, evalOp, Nat.reduceEqDiff, Nat.reduceLT, ↓reduceIte, reduceCtorEq, hl, e0, e1, e2, e8, e9, e10, e11, e31]
          exact ⟨rfl, (by simp only [List.length_set, hl]), (by simp only [W0, Nat.reduceEqDiff, Nat.reduceLT, ↓reduceIte, hl, e0, e1, e2, e8, e9, e10, e11, e31]), (by simp only [W0, Nat.reduceEqDiff, Nat.reduceLT, ↓reduceIte, hl, e0, e1, e2, e8, e9, e10, e11, e31]), (by simp only [W0, Nat.reduceEqDiff, Nat.reduceLT, ↓reduceIte, hl, e0, e1, e2, e8, e9, e10, e11, e31]), (by simp only [W0, Nat.reduceEqDiff, Nat.reduceLT, ↓reduceIte, hl, e0, e1, e2, e8, e9, e10, e11, e31]), (by simp only [W0, Nat.reduceEqDiff, Nat.reduceLT, ↓reduceIte, hl, e0, e1, e2, e8, e9, e10, e11, e31]), (by simp only [W0, Nat.reduceEqDiff, Nat.reduceLT, ↓reduceIte, hl, e0, e1, e2, e8, e9, e10, e11, e31])⟩) ?_
        rintro envg51 _ ⟨rfl, hl, e0, e1, e2, e8, e9, e10⟩
        try simp only [↓WD, W0, evalOp, Nat.reduceEqDiff, Nat.reduceLT, ↓reduceIte, reduceCtorEq, hl, e0, e1, e2, e8, e9, e10]
        obtain rfl := Option.some.inj wr53
        rw [KP_nil, QL_normal]
        exact ⟨_, rfl, (by simp only [List.length_set, hl]), (by simp only [W0, Nat.reduceEqDiff, Nat.reduceLT, ↓reduceIte, hl, e0, e1, e2, e8, e9, e10]), (by simp only [W0, Nat.reduceEqDiff, Nat.reduceLT, ↓reduceIte, hl, e0, e1, e2, e8, e9, e10]), (by simp only [W0, Nat.reduceEqDiff, Nat.reduceLT, ↓reduceIte, hl, e0, e1, e2, e8, e9, e10]), (by simp only [W0, Nat.reduceEqDiff, Nat.reduceLT, ↓reduceIte, hl, e0, e1, e2, e8, e9, e10]), (by simp only [W0, Nat.reduceEqDiff, Nat.reduceLT, ↓reduceIte, hl, e0, e1, e2, e8, e9, e10]), (by simp only [W0, Nat.reduceEqDiff, Nat.reduceLT, ↓reduceIte, hl, e0, e1, e2, e8, e9, e10]), S30⟩
      · rw [if_neg c50] at wr53
        try simp only [↓WD, W0, evalOp, Nat.reduceEqDiff, Nat.reduceLT, ↓reduceIte, reduceCtorEq, hl, e0, e1, e2, e8, e9, e10, e11, e31]
        rw [AW_region]
        refine AE_joinR (fun e h' => h29 = h' ∧ e.length = 49 ∧ e.getD 0 .undef = ux_ ∧ e.getD 1 .undef = .int .i64 target ∧ e.getD 2 .undef = .func (.func 20) [] [] ∧ e.getD 8 .undef = .int .i64 (x_.length : Int) ∧ e.getD 9 .undef = .int .i64 s.1 ∧ e.getD 10 .undef = .int .i64 (IntKind.i64.wrap y35)) (by
          simp only [↓WE, WA, WL, aop, ofValue, ofCell, isConst, abin, acall1, abuiltin, aun, AV.cells, AV.one, Nat.reduceAdd, Int.reduceLT, Int.reduceLE, ↓WD, W0, evalOp, Nat.reduceEqDiff, Nat.reduceLT, ↓reduceIte, reduceCtorEq, hl, e0, e1, e2, e8, e9, e10, e11, e31]
          exact ⟨rfl, (by simp only [List.length_set, hl]), (by simp only [W0, Nat.reduceEqDiff, Nat.reduceLT, ↓reduceIte, hl, e0, e1, e2, e8, e9, e10, e11, e31]), (by simp only [W0, Nat.reduceEqDiff, Nat.reduceLT, ↓reduceIte, hl, e0, e1, e2, e8, e9, e10, e11, e31]), (by simp only [W0, Nat.reduceEqDiff, Nat.reduceLT, ↓reduceIte, hl, e0, e1, e2, e8, e9, e10, e11, e31]), (by simp only [W0, Nat.reduceEqDiff, Nat.reduceLT, ↓reduceIte, hl, e0, e1, e2, e8, e9, e10, e11, e31]), (by simp only [W0, Nat.reduceEqDiff, Nat.reduceLT, ↓reduceIte, hl, e0, e1, e2, e8, e9, e10, e11, e31]), (by simp only [W0, Nat.reduceEqDiff, Nat.reduceLT, ↓reduceIte, hl, e0, e1, e2, e8, e9, e10, e11, e31])⟩) ?_
        rintro envg52 _ ⟨rfl, hl, e0, e1, e2, e8, e9, e10⟩
        try simp only [↓WD, W0, evalOp, Nat.reduceEqDiff, Nat.reduceLT, ↓reduceIte, reduceCtorEq, hl, e0, e1, e2, e8, e9, e10]
        obtain rfl := Option.some.inj wr53
        rw [KP_nil, QL_normal]
        exact ⟨_, rfl, (by simp only [List.length_set, hl]), (by simp only [W0, Nat.reduceEqDiff, Nat.reduceLT, ↓reduceIte, hl, e0, e1, e2, e8, e9, e10]), (by simp only [W0, Nat.reduceEqDiff, Nat.reduceLT, ↓reduceIte, hl, e0, e1, e2, e8, e9, e10]), (by simp only [W0, Nat.reduceEqDiff, Nat.reduceLT, ↓reduceIte, hl, e0, e1, e2, e8, e9, e10]), (by simp only [W0, Nat.reduceEqDiff, Nat.reduceLT, ↓reduceIte, hl, e0, e1, e2, e8, e9, e10]), (by simp only [W0, Nat.reduceEqDiff, Nat.reduceLT, ↓reduceIte, hl, e0, e1, e2, e8, e9, e10]), (by simp only [W0, Nat.reduceEqDiff, Nat.reduceLT, ↓reduceIte, hl, e0, e1, e2, e8, e9, e10]), S30⟩
    · rw [if_neg c33] at wr53
      try simp only [↓WD, W0, evalOp, Nat.reduceEqDiff, Nat.reduceLT, ↓reduceIte, reduceCtorEq, hl, e0, e1, e2, e8, e9, e10, e17]
      obtain rfl := Option.some.inj wr53
      rw [KP_nil, QL_exit]
      exact ⟨_, rfl, rfl, (by simp only [List.length_set, hl]), (by simp only [W0, Nat.reduceEqDiff, Nat.reduceLT, ↓reduceIte, hl, e0, e1, e2, e8, e9, e10, e17]), (by simp only [W0, Nat.reduceEqDiff, Nat.reduceLT, ↓reduceIte, hl, e0, e1, e2, e8, e9, e10, e17]), (by simp only [W0, Nat.reduceEqDiff, Nat.reduceLT, ↓reduceIte, hl, e0, e1, e2, e8, e9, e10, e17]), (by simp only [W0, Nat.reduceEqDiff, Nat.reduceLT, ↓reduceIte, hl, e0, e1, e2, e8, e9, e10, e17]), (by simp only [W0, Nat.reduceEqDiff, Nat.reduceLT, ↓reduceIte, hl, e0, e1, e2, e8, e9, e10, e17]), S30⟩
  · exact ⟨(by simp only [List.length_set, hl]), (by simp only [W0, Nat.reduceEqDiff, Nat.reduceLT, ↓reduceIte, hl, e0, e1, e2, e8, e9, e10]), (by simp only [W0, Nat.reduceEqDiff, Nat.reduceLT, ↓reduceIte, hl, e0, e1, e2, e8, e9, e10]), (by simp only [W0, Nat.reduceEqDiff, Nat.reduceLT, ↓reduceIte, hl, e0, e1, e2, e8, e9, e10]), (by simp only [W0, Nat.reduceEqDiff, Nat.reduceLT, ↓reduceIte, hl, e0, e1, e2, e8, e9, e10]), (by simp only [W0, Nat.reduceEqDiff, Nat.reduceLT, ↓reduceIte, hl, e0, e1, e2, e8, e9, e10]), (by simp only [W0, Nat.reduceEqDiff, Nat.reduceLT, ↓reduceIte, hl, e0, e1, e2, e8, e9, e10]), S0⟩
  · rintro x envr53 h54 ⟨rfl, hl, e0, e1, e2, e8, e9, S55⟩
    try simp only [↓WD, W0, evalOp, Nat.reduceEqDiff, Nat.reduceLT, ↓reduceIte, reduceCtorEq, hl, e0, e1, e2, e8, e9]
    rw [AW_region]
    obtain ⟨j67, qj67, hF⟩ := obind hF
    refine AE_joinR (fun e h' => e.length = 49 ∧ e.getD 6 .undef = .int .i64 r53 ∧ e.getD 7 .undef = .bool j67 ∧ Sep h [] h' []) ?_ ?_
    · simp only [↓WE, WA, WL, aop, ofValue, ofCell, isConst, abin, acall1, abuiltin, aun, AV.cells, AV.one, Nat.reduceAdd, Int.reduceLT, Int.reduceLE, ↓WD, W0, evalOp, Nat.reduceEqDiff, Nat.reduceLT, ↓reduceIte, reduceCtorEq, hl, e0, e1, e2, e8, e9]
      refine GuardW_dec (fun c56 => ?_) (fun c56 => ?_)
      · rw [if_pos c56] at qj67
        have d57 : (decide (r53 < (x_.length : Int))) = true := decide_eq_true c56
        obtain ⟨x59, qx59, qj67⟩ := obind qj67
        obtain ⟨i60, off61, oi62, hp63⟩ := RO.addr (P := Tryd.prog) sl_27 (S55.ro hux_) qx59
        have ol64 := RO.ld (P := Tryd.prog) (S55.ro hux_) hp63 qx59 (t := 29) (o := 0) (v := .agg [.int .i64 x59.x0, .int .i64 x59.x1, .int .i64 x59.x2]) (by omega) (by simp only [apart, ag_29, sz_29]; rfl)
        simp only [Nat.add_zero] at ol64
        obtain ⟨y65, qy65, qj67⟩ := obind qj67
        have og66 := fun (D : Drawn) (n : Nat) (g : AH) => call_hook (P := Tryd.prog) (D := D) k20 n (args := [.agg [.int .i64 x59.x0, .int .i64 x59.x1, .int .i64 x59.x2], .int .i64 target]) (v := .int .i64 y65) ((kf_20_eq x59.x0 x59.x1 x59.x2 target).trans (by rw [qy65]; rfl)) g
        simp only [↓WE, WA, WL, aop, ofValue, ofCell, isConst, abin, acall1, abuiltin, aun, AV.cells, AV.one, Nat.reduceAdd, Int.reduceLT, Int.reduceLE, ↓WD, W0, evalOp, Nat.reduceEqDiff, Nat.reduceLT, ↓reduceIte, reduceCtorEq, hl, e0, e1, e2, e8, e9, oi62, ol64, og66, d57]
        obtain rfl := Option.some.inj qj67
        exact ⟨(by simp only [List.length_set, hl]), (by simp only [W0, Nat.reduceEqDiff, Nat.reduceLT, ↓reduceIte, hl, e0, e1, e2, e8, e9]), (by simp only [W0, Nat.reduceEqDiff, Nat.reduceLT, ↓reduceIte, hl, e0, e1, e2, e8, e9]), S55⟩
      · rw [if_neg c56] at qj67
        have d58 : (decide (r53 < (x_.length : Int))) = false := decide_eq_false c56
        simp only [↓WE, WA, WL, aop, ofValue, ofCell, isConst, abin, acall1, abuiltin, aun, AV.cells, AV.one, Nat.reduceAdd, Int.reduceLT, Int.reduceLE, ↓WD, W0, evalOp, Nat.reduceEqDiff, Nat.reduceLT, ↓reduceIte, reduceCtorEq, hl, e0, e1, e2, e8, e9, d58]
        obtain rfl := Option.some.inj qj67
        exact ⟨(by simp only [List.length_set, hl]), (by simp only [W0, Nat.reduceEqDiff, Nat.reduceLT, ↓reduceIte, hl, e0, e1, e2, e8, e9]), (by simp only [W0, Nat.reduceEqDiff, Nat.reduceLT, ↓reduceIte, hl, e0, e1, e2, e8, e9]), S55⟩
    · rintro envj67 h69 ⟨hl, e6, e7, S68⟩
      try simp only [↓WD, W0, evalOp, Nat.reduceEqDiff, Nat.reduceLT, ↓reduceIte, reduceCtorEq, hl, e6, e7]
      refine KP_ret (vs := [.int .i64 r53, .bool j67]) (by simp only [aresults, aresult, gs, List.length_set, Nat.reduceEqDiff, Nat.reduceLT, ↓reduceIte, hl, e6, e7]) ?_
      obtain rfl := Option.some.inj hF
      exact ⟨rfl, S68⟩
set_option maxRecDepth 100000 in
set_option maxHeartbeats 4000000 in
theorem W_fold_Small {K : PureK} (k20 : K 20 = some kf_20) (n12 : K 12 = none) (n19 : K 19 = none) (n10 : K 10 = none) (m : Nat) (hm : NF + 2 ≤ m) (h : AH) (code : Int) {r : Int} (hF : F_fold_Small code = some r) :
    AR (acall Tryd.prog (hooksOf K) (drawnOf Tryd.prog (tabOf K)) m 10 [.int .i64 code] h) (fun v h' => v = .int .i64 r) := by
  obtain ⟨m, rfl⟩ : ∃ k, m = k + 1 := ⟨m - 1, by omega⟩
  refine AR_call (hooksOf_none n10) Tryd.func10 rfl _ _ fun env hl he => ?_
  have e0 := he 0
  simp only [List.getD_cons_zero, List.getD_cons_succ] at e0
  simp only [Tryd.f10] at hl ⊢
  simp only [List.length_cons, List.length_nil, Nat.reduceAdd, Nat.reduceSub] at hl
  clear he
  have S0 : Sep h [] h [] := Sep.nil h
  rw [F_fold_Small] at hF
  try simp only [↓WD, W0, evalOp, Nat.reduceEqDiff, Nat.reduceLT, ↓reduceIte, reduceCtorEq, hl, e0]
  rw [AW_region]
  refine AE_joinR (fun e h' => h = h' ∧ e.length = 23 ∧ e.getD 0 .undef = .int .i64 code) (by
    simp only [↓WE, WA, WL, aop, ofValue, ofCell, isConst, abin, acall1, abuiltin, aun, AV.cells, AV.one, Nat.reduceAdd, Int.reduceLT, Int.reduceLE, ↓WD, W0, evalOp, Nat.reduceEqDiff, Nat.reduceLT, ↓reduceIte, reduceCtorEq, hl, e0]
    exact ⟨rfl, (by simp only [List.length_set, hl]), (by simp only [W0, Nat.reduceEqDiff, Nat.reduceLT, ↓reduceIte, hl, e0])⟩) ?_
  rintro envg1 _ ⟨rfl, hl, e0⟩
  try simp only [↓WD, W0, evalOp, Nat.reduceEqDiff, Nat.reduceLT, ↓reduceIte, reduceCtorEq, hl, e0]
  rw [AW_region]
  obtain ⟨y2, qy2, hF⟩ := obind hF
  obtain ⟨u6, h4, og3, _, rfl, S5⟩ := (W_fold_Table n12 m (by omega) h  qy2).out
  have S9 : Sep h [] h4 [.row u6 29 3 (y2.map GA3_i64.cells)] := S0.call0 S5
  refine AE_joinR (fun e h' => h4 = h' ∧ e.length = 23 ∧ e.getD 0 .undef = .int .i64 code ∧ e.getD 3 .undef = u6) (by
    simp only [↓WE, WA, WL, aop, ofValue, ofCell, isConst, abin, acall1, abuiltin, aun, AV.cells, AV.one, Nat.reduceAdd, Int.reduceLT, Int.reduceLE, ↓WD, W0, evalOp, Nat.reduceEqDiff, Nat.reduceLT, ↓reduceIte, reduceCtorEq, hl, e0, og3]
    exact ⟨rfl, (by simp only [List.length_set, hl]), (by simp only [W0, Nat.reduceEqDiff, Nat.reduceLT, ↓reduceIte, hl, e0]), (by simp only [W0, Nat.reduceEqDiff, Nat.reduceLT, ↓reduceIte, hl, e0])⟩) ?_
  rintro envg10 _ ⟨rfl, hl, e0, e3⟩
  try simp only [↓WD, W0, evalOp, Nat.reduceEqDiff, Nat.reduceLT, ↓reduceIte, reduceCtorEq, hl, e0, e3]
  rw [AW_region]
  obtain ⟨y11, qy11, hF⟩ := obind hF
  obtain ⟨v15, h13, og12, rfl, S14⟩ := (W_slices_BinarySearchFunc_3_int_3_int_int_20 k20 n19 m (by omega) h4 u6 y2 (S9.row_ro (i := 0) rfl) code qy11).out
  have S16 : Sep h [] h13 [.row u6 29 3 (y2.map GA3_i64.cells)] := S9.call0 S14
  refine AE_joinR (fun e h' => h13 = h' ∧ e.length = 23 ∧ e.getD 0 .undef = .int .i64 code ∧ e.getD 3 .undef = u6 ∧ e.getD 4 .undef = .int .i64 y11.1 ∧ e.getD 5 .undef = .bool y11.2) (by
    simp only [↓WE, WA, WL, aop, ofValue, ofCell, isConst, abin, acall1, abuiltin, aun, AV.cells, AV.one, Nat.reduceAdd, Int.reduceLT, Int.reduceLE, ↓WD, W0, evalOp, Nat.reduceEqDiff, Nat.reduceLT, ↓reduceIte, reduceCtorEq, hl, e0, e3, og12]
    exact ⟨rfl, (by simp only [List.length_set, hl]), (by simp only [W0, Nat.reduceEqDiff, Nat.reduceLT, ↓reduceIte, hl, e0, e3]), (by simp only [W0, Nat.reduceEqDiff, Nat.reduceLT, ↓reduceIte, hl, e0, e3]), (by simp only [W0, Nat.reduceEqDiff, Nat.reduceLT, ↓reduceIte, hl, e0, e3]), (by simp only [W0, Nat.reduceEqDiff, Nat.reduceLT, ↓reduceIte, hl, e0, e3])⟩) ?_
  rintro envg17 _ ⟨rfl, hl, e0, e3, e4, e5⟩
  try simp only [↓WD, W0, evalOp, Nat.reduceEqDiff, Nat.reduceLT, ↓reduceIte, reduceCtorEq, hl, e0, e3, e4, e5]
  rw [AW_region]
  refine AE_joinR (fun e h' => h13 = h' ∧ e.length = 23 ∧ e.getD 0 .undef = .int .i64 code ∧ e.getD 3 .undef = u6 ∧ e.getD 4 .undef = .int .i64 y11.1 ∧ e.getD 14 .undef = .bool !y11.2) (by
    simp only [↓WE, WA, WL, aop, ofValue, ofCell, isConst, abin, acall1, abuiltin, aun, AV.cells, AV.one, Nat.reduceAdd, Int.reduceLT, Int.reduceLE, ↓WD, W0, evalOp, Nat.reduceEqDiff, Nat.reduceLT, ↓reduceIte, reduceCtorEq, hl, e0, e3, e4, e5]
    exact ⟨rfl, (by simp only [List.length_set, hl]), (by simp only [W0, Nat.reduceEqDiff, Nat.reduceLT, ↓reduceIte, hl, e0, e3, e4, e5]), (by simp only [W0, Nat.reduceEqDiff, Nat.reduceLT, ↓reduceIte, hl, e0, e3, e4, e5]), (by simp only [W0, Nat.reduceEqDiff, Nat.reduceLT, ↓reduceIte, hl, e0, e3, e4, e5]), (by simp only [W0, Nat.reduceEqDiff, Nat.reduceLT, ↓reduceIte, hl, e0, e3, e4, e5])⟩) ?_
  rintro envg18 _ ⟨rfl, hl, e0, e3, e4, e14⟩
  try simp only [↓WD, W0, evalOp, Nat.reduceEqDiff, Nat.reduceLT, ↓reduceIte, reduceCtorEq, hl, e0, e3, e4, e14]
  refine CondK_boo (fun c21 => ?_) (fun c21 => ?_)
  · rw [if_pos c21] at hF
    try simp only [↓WD, W0, evalOp, Nat.reduceEqDiff, Nat.reduceLT, ↓reduceIte, reduceCtorEq, hl, e0, e3, e4, e14]
    rw [AW_region]
    refine AE_joinR (fun e h' => h13 = h' ∧ e.length = 23 ∧ e.getD 2 .undef = .int .i64 code) (by
      simp only [↓WE, WA, WL, aop, ofValue, ofCell, isConst, abin, acall1, abuiltin, aun, AV.cells, AV.one, Nat.reduceAdd, Int.reduceLT, Int.reduceLE, ↓WD, W0, evalOp, Nat.reduceEqDiff, Nat.reduceLT, ↓reduceIte, reduceCtorEq, hl, e0, e3, e4, e14]
      exact ⟨rfl, (by simp only [List.length_set, hl]), (by simp only [W0, Nat.reduceEqDiff, Nat.reduceLT, ↓reduceIte, hl, e0, e3, e4, e14])⟩) ?_
    rintro envg22 _ ⟨rfl, hl, e2⟩
    try simp only [↓WD, W0, evalOp, Nat.reduceEqDiff, Nat.reduceLT, ↓reduceIte, reduceCtorEq, hl, e2]
    refine KP_ret (vs := [.int .i64 code]) (by simp only [aresults, aresult, gs, List.length_set, Nat.reduceEqDiff, Nat.reduceLT, ↓reduceIte, hl, e2]) ?_
    obtain rfl := Option.some.inj hF
    exact rfl
  · rw [if_neg (nf c21)] at hF
    try simp only [↓WD, W0, evalOp, Nat.reduceEqDiff, Nat.reduceLT, ↓reduceIte, reduceCtorEq, hl, e0, e3, e4, e14]
    rw [AW_region]
    obtain ⟨x23, qx23, hF⟩ := obind hF
    obtain ⟨i24, off25, oi26, hp27⟩ := RO.addr (P := Tryd.prog) sl_27 (S16.row_ro (i := 0) rfl) qx23
    have ol28 := RO.ld (P := Tryd.prog) (S16.row_ro (i := 0) rfl) hp27 qx23 (t := 3) (o := 2) (v := .int .i64 x23.x2) (by omega) (by simp only [apart, ag_3, sz_3]; rfl)
    refine AE_joinR (fun e h' => h13 = h' ∧ e.length = 23 ∧ e.getD 2 .undef = .int .i64 (IntKind.i64.wrap (code + x23.x2))) (by
      simp only [↓WE, WA, WL, aop, ofValue, ofCell, isConst, abin, acall1, abuiltin, aun, AV.cells, AV.one, Nat.reduceAdd, Int.reduceLT, Int.reduceLE, ↓WD, W0, evalOp, Nat.reduceEqDiff, Nat.reduceLT, ↓reduceIte, reduceCtorEq, hl, e0, e3, e4, e14, oi26, ix_29_2, ol28]
      exact ⟨rfl, (by simp only [List.length_set, hl]), (by simp only [W0, Nat.reduceEqDiff, Nat.reduceLT, ↓reduceIte, hl, e0, e3, e4, e14])⟩) ?_
    rintro envg29 _ ⟨rfl, hl, e2⟩
    try simp only [↓WD, W0, evalOp, Nat.reduceEqDiff, Nat.reduceLT, ↓reduceIte, reduceCtorEq, hl, e2]
    refine KP_ret (vs := [.int .i64 (IntKind.i64.wrap (code + x23.x2))]) (by simp only [aresults, aresult, gs, List.length_set, Nat.reduceEqDiff, Nat.reduceLT, ↓reduceIte, hl, e2]) ?_
    obtain rfl := Option.some.inj hF
    exact rfl
set_option maxRecDepth 100000 in
set_option maxHeartbeats 4000000 in
theorem W_unicode_utf8_appendRuneNonASCII {K : PureK} (n26 : K 26 = none) (m : Nat) (hm : NF + 1 ≤ m) (h : AH) (up : AV) (p : List Int) (hokp : ∀ e ∈ ([.row up 5 1 (p.map (cellI .u8))] : List Ent), e.ok h) (hndp : (([.row up 5 1 (p.map (cellI .u8))] : List Ent).flatMap Ent.ids).Nodup) (r_ : Int) {r : (List Int)} (hF : F_unicode_utf8_appendRuneNonASCII p r_ = some r) :
    AR (acall Tryd.prog (hooksOf K) (drawnOf Tryd.prog (tabOf K)) m 26 [up, .int .i32 r_] h) (fun v h' => ∃ w0 : AV, v = w0 ∧ Sep h (([.row up 5 1 (p.map (cellI .u8))] : List Ent).flatMap Ent.ids) h' [.row w0 5 1 (r.map (cellI .u8))]) := by
  obtain ⟨m, rfl⟩ : ∃ k, m = k + 1 := ⟨m - 1, by omega⟩
  refine AR_call (hooksOf_none n26) Tryd.func26 rfl _ _ fun env hl he => ?_
  have e0 := he 0
  have e1 := he 1
  simp only [List.getD_cons_zero, List.getD_cons_succ] at e0 e1
  simp only [Tryd.f26] at hl ⊢
  simp only [List.length_cons, List.length_nil, Nat.reduceAdd, Nat.reduceSub] at hl
  clear he
  have S0 : Sep h (([.row up 5 1 (p.map (cellI .u8))] : List Ent).flatMap Ent.ids) h [.row up 5 1 (p.map (cellI .u8))] := Sep.lendN hokp hndp
  rw [F_unicode_utf8_appendRuneNonASCII] at hF
  try simp only [↓WD, W0, evalOp, Nat.reduceEqDiff, Nat.reduceLT, ↓reduceIte, reduceCtorEq, hl, e0, e1]
  rw [AW_region]
  refine AE_joinR (fun e h' => h = h' ∧ e.length = 78 ∧ e.getD 0 .undef = up ∧ e.getD 1 .undef = .int .i32 r_) (by
    simp only [↓WE, WA, WL, aop, ofValue, ofCell, isConst, abin, acall1, abuiltin, aun, AV.cells, AV.one, Nat.reduceAdd, Int.reduceLT, Int.reduceLE, ↓WD, W0, evalOp, Nat.reduceEqDiff, Nat.reduceLT, ↓reduceIte, reduceCtorEq, hl, e0, e1]
    exact ⟨rfl, (by simp only [List.length_set, hl]), (by simp only [W0, Nat.reduceEqDiff, Nat.reduceLT, ↓reduceIte, hl, e0, e1]), (by simp only [W0, Nat.reduceEqDiff, Nat.reduceLT, ↓reduceIte, hl, e0, e1])⟩) ?_
  rintro envg1 _ ⟨rfl, hl, e0, e1⟩
  try simp only [↓WD, W0, evalOp, Nat.reduceEqDiff, Nat.reduceLT, ↓reduceIte, reduceCtorEq, hl, e0, e1]
  rw [AW_region]
  have oc2 := fun g : AH => aconv_int (P := Tryd.prog) (h := g) (n := r_) (k' := .i32) Tryd.underlying21 Tryd.underlying62
  refine AE_joinR (fun e h' => h = h' ∧ e.length = 78 ∧ e.getD 0 .undef = up ∧ e.getD 1 .undef = .int .i32 r_ ∧ e.getD 5 .undef = .int .u32 (IntKind.u32.wrap r_)) (by
    simp only [↓WE, WA, WL, aop, ofValue, ofCell, isConst, abin, acall1, abuiltin, aun, AV.cells, AV.one, Nat.reduceAdd, Int.reduceLT, Int.reduceLE, ↓WD, W0, evalOp, Nat.reduceEqDiff, Nat.reduceLT, ↓reduceIte, reduceCtorEq, hl, e0, e1, oc2]
    exact ⟨rfl, (by simp only [List.length_set, hl]), (by simp only [W0, Nat.reduceEqDiff, Nat.reduceLT, ↓reduceIte, hl, e0, e1]), (by simp only [W0, Nat.reduceEqDiff, Nat.reduceLT, ↓reduceIte, hl, e0, e1]), (by simp only [W0, Nat.reduceEqDiff, Nat.reduceLT, ↓reduceIte, hl, e0, e1])⟩) ?_
  rintro envg3 _ ⟨rfl, hl, e0, e1, e5⟩
  try simp only [↓WD, W0, evalOp, Nat.reduceEqDiff, Nat.reduceLT, ↓reduceIte, reduceCtorEq, hl, e0, e1, e5]
  rw [AW_region]
  refine AE_joinR (fun e h' => h = h' ∧ e.length = 78 ∧ e.getD 0 .undef = up ∧ e.getD 1 .undef = .int .i32 r_ ∧ e.getD 5 .undef = .int .u32 (IntKind.u32.wrap r_) ∧ e.getD 11 .undef = .bool (decide ((IntKind.u32.wrap r_) ≤ 2047))) (by
    simp only [↓WE, WA, WL, aop, ofValue, ofCell, isConst, abin, acall1, abuiltin, aun, AV.cells, AV.one, Nat.reduceAdd, Int.reduceLT, Int.reduceLE, ↓WD, W0, evalOp, Nat.reduceEqDiff, Nat.reduceLT, ↓reduceIte, reduceCtorEq, hl, e0, e1, e5]
    exact ⟨rfl, (by simp only [List.length_set, hl]), (by simp only [W0, Nat.reduceEqDiff, Nat.reduceLT, ↓reduceIte, hl, e0, e1, e5]), (by simp only [W0, Nat.reduceEqDiff, Nat.reduceLT, ↓reduceIte, hl, e0, e1, e5]), (by simp only [W0, Nat.reduceEqDiff, Nat.reduceLT, ↓reduceIte, hl, e0, e1, e5]), (by simp only [W0, Nat.reduceEqDiff, Nat.reduceLT, ↓reduceIte, hl, e0, e1, e5])⟩) ?_
  rintro envg4 _ ⟨rfl, hl, e0, e1, e5, e11⟩
  try simp only [↓WD, W0, evalOp, Nat.reduceEqDiff, Nat.reduceLT, ↓reduceIte, reduceCtorEq, hl, e0, e1, e5, e11]
  refine CondK_dec (fun c219 => ?_) (fun c219 => ?_)
  · rw [if_pos c219] at hF
    try simp only [↓WD, W0, evalOp, Nat.reduceEqDiff, Nat.reduceLT, ↓reduceIte, reduceCtorEq, hl, e0, e1, e5, e11]
    rw [AW_region]
    obtain ⟨y220, qy220, hF⟩ := obind hF
    have oy220 := shr_int (k := .i32) qy220
    have oc221 := fun g : AH => aconv_int (P := Tryd.prog) (h := g) (n := y220) (k' := .i32) Tryd.underlying21 Tryd.underlying5
    have oc222 := fun g : AH => aconv_int (P := Tryd.prog) (h := g) (n := r_) (k' := .i32) Tryd.underlying21 Tryd.underlying5
    obtain ⟨u223, h224, ob225, S226⟩ := Sep.build (P := Tryd.prog) sl_32 S0 [.int .u8 (orI .u8 192 (IntKind.u8.wrap y220)), .int .u8 (orI .u8 128 (andI .u8 (IntKind.u8.wrap r_) 63))] (([orI .u8 192 (IntKind.u8.wrap y220), orI .u8 128 (andI .u8 (IntKind.u8.wrap r_) 63)] : List Int).map (cellI .u8)) rfl (by simp [cellI]) (by simp)
    have ob225 : abuildSlice Tryd.prog 32 2 [(0, .int .u8 (orI .u8 192 (IntKind.u8.wrap y220))), (1, .int .u8 (orI .u8 128 (andI .u8 (IntKind.u8.wrap r_) 63)))] h = some (u223, h224) := ob225
    have S228 : Sep h (([.row up 5 1 (p.map (cellI .u8))] : List Ent).flatMap Ent.ids) h224 [.row up 5 1 (p.map (cellI .u8)), .row u223 5 1 (([orI .u8 192 (IntKind.u8.wrap y220), orI .u8 128 (andI .u8 (IntKind.u8.wrap r_) 63)] : List Int).map (cellI .u8))] := S226
    obtain ⟨zs229, qzs229, hF⟩ := obind hF
    obtain ⟨u230, h231, op232, S233⟩ := Sep.append (P := Tryd.prog) (t' := 32) sl_32 (by rw [Tryd.underlying32]; rfl) S228 0 rfl (S228.row_ro (i := 1) rfl) (fun _ => rfl) qzs229
    have S234 : Sep h (([.row up 5 1 (p.map (cellI .u8))] : List Ent).flatMap Ent.ids) h231 [.row u230 5 1 (zs229.map (cellI .u8)), .row u223 5 1 (([orI .u8 192 (IntKind.u8.wrap y220), orI .u8 128 (andI .u8 (IntKind.u8.wrap r_) 63)] : List Int).map (cellI .u8))] := S233
    refine AE_joinR (fun e h' => h231 = h' ∧ e.length = 78 ∧ e.getD 4 .undef = u230) (by
      simp only [↓WE, WA, WL, aop, ofValue, ofCell, isConst, abin, acall1, abuiltin, aun, AV.cells, AV.one, Nat.reduceAdd, Int.reduceLT, Int.reduceLE, ↓WD, W0, evalOp, Nat.reduceEqDiff, Nat.reduceLT, ↓reduceIte, reduceCtorEq, hl, e0, e1, e5, e11, oy220, oc221, oc222, ob225, op232]
      exact ⟨rfl, (by simp only [List.length_set, hl]), (by simp only [W0, Nat.reduceEqDiff, Nat.reduceLT, ↓reduceIte, hl, e0, e1, e5, e11])⟩) ?_
    rintro envg235 _ ⟨rfl, hl, e4⟩
    try simp only [↓WD, W0, evalOp, Nat.reduceEqDiff, Nat.reduceLT, ↓reduceIte, reduceCtorEq, hl, e4]
    refine KP_ret (vs := [u230]) (by simp only [aresults, aresult, gs, List.length_set, Nat.reduceEqDiff, Nat.reduceLT, ↓reduceIte, hl, e4]) ?_
    obtain rfl := Option.some.inj hF
    exact ⟨u230, rfl, S234.pick [0] (by decide) rfl⟩
  · rw [if_neg c219] at hF
    try simp only [↓WD, W0, evalOp, Nat.reduceEqDiff, Nat.reduceLT, ↓reduceIte, reduceCtorEq, hl, e0, e1, e5, e11]
    rw [AW_region]
    refine AE_joinR (fun e h' => h = h' ∧ e.length = 78 ∧ e.getD 0 .undef = up ∧ e.getD 1 .undef = .int .i32 r_ ∧ e.getD 5 .undef = .int .u32 (IntKind.u32.wrap r_) ∧ e.getD 25 .undef = .bool (decide ((IntKind.u32.wrap r_) < 55296))) (by
      simp only [↓WE, WA, WL, aop, ofValue, ofCell, isConst, abin, acall1, abuiltin, aun, AV.cells, AV.one, Nat.reduceAdd, Int.reduceLT, Int.reduceLE, ↓WD, W0, evalOp, Nat.reduceEqDiff, Nat.reduceLT, ↓reduceIte, reduceCtorEq, hl, e0, e1, e5, e11]
      exact ⟨rfl, (by simp only [List.length_set, hl]), (by simp only [W0, Nat.reduceEqDiff, Nat.reduceLT, ↓reduceIte, hl, e0, e1, e5, e11]), (by simp only [W0, Nat.reduceEqDiff, Nat.reduceLT, ↓reduceIte, hl, e0, e1, e5, e11]), (by simp only [W0, Nat.reduceEqDiff, Nat.reduceLT, ↓reduceIte, hl, e0, e1, e5, e11]), (by simp only [W0, Nat.reduceEqDiff, Nat.reduceLT, ↓reduceIte, hl, e0, e1, e5, e11])⟩) ?_
    rintro envg236 _ ⟨rfl, hl, e0, e1, e5, e25⟩
    try simp only [↓WD, W0, evalOp, Nat.reduceEqDiff, Nat.reduceLT, ↓reduceIte, reduceCtorEq, hl, e0, e1, e5, e25]
    obtain ⟨j244, qj244, hF⟩ := obind hF
    refine CondK_join (fun e h' => e.length = 78 ∧ e.getD 0 .undef = up ∧ e.getD 1 .undef = .int .i32 r_ ∧ e.getD 5 .undef = .int .u32 (IntKind.u32.wrap r_) ∧ e.getD 25 .undef = .bool j244 ∧ Sep h (([.row up 5 1 (p.map (cellI .u8))] : List Ent).flatMap Ent.ids) h' [.row up 5 1 (p.map (cellI .u8))]) ?_ ?_
    · refine CondK_dec (fun c237 => ?_) (fun c237 => ?_)
      · rw [if_pos c237] at qj244
        try simp only [↓WD, W0, evalOp, Nat.reduceEqDiff, Nat.reduceLT, ↓reduceIte, reduceCtorEq, hl, e0, e1, e5, e25]
        rw [KP_nil, KJ_normal]
        obtain rfl := Option.some.inj qj244
        exact ⟨(by simp only [List.length_set, hl]), (by simp only [W0, Nat.reduceEqDiff, Nat.reduceLT, ↓reduceIte, hl, e0, e1, e5, e25]), (by simp only [W0, Nat.reduceEqDiff, Nat.reduceLT, ↓reduceIte, hl, e0, e1, e5, e25]), (by simp only [W0, Nat.reduceEqDiff, Nat.reduceLT, ↓reduceIte, hl, e0, e1, e5, e25]), (by simp only [W0, Nat.reduceEqDiff, Nat.reduceLT, ↓reduceIte, hl, e0, e1, e5, e25]), S0⟩
      · rw [if_neg c237] at qj244
        try simp only [↓WD, W0, evalOp, Nat.reduceEqDiff, Nat.reduceLT, ↓reduceIte, reduceCtorEq, hl, e0, e1, e5, e25]
        rw [AW_region]
        obtain ⟨j241, qj241, qj244⟩ := obind qj244
        refine AE_joinR (fun e h' => e.length = 78 ∧ e.getD 0 .undef = up ∧ e.getD 1 .undef = .int .i32 r_ ∧ e.getD 5 .undef = .int .u32 (IntKind.u32.wrap r_) ∧ e.getD 25 .undef = .bool j241 ∧ Sep h (([.row up 5 1 (p.map (cellI .u8))] : List Ent).flatMap Ent.ids) h' [.row up 5 1 (p.map (cellI .u8))]) ?_ ?_
        · simp only [↓WE, WA, WL, aop, ofValue, ofCell, isConst, abin, acall1, abuiltin, aun, AV.cells, AV.one, Nat.reduceAdd, Int.reduceLT, Int.reduceLE, ↓WD, W0, evalOp, Nat.reduceEqDiff, Nat.reduceLT, ↓reduceIte, reduceCtorEq, hl, e0, e1, e5, e25]
          refine GuardW_dec (fun c238 => ?_) (fun c238 => ?_)
          · rw [if_pos c238] at qj241
            have d239 : (decide (57343 < (IntKind.u32.wrap r_))) = true := decide_eq_true c238
            simp only [↓WE, WA, WL, aop, ofValue, ofCell, isConst, abin, acall1, abuiltin, aun, AV.cells, AV.one, Nat.reduceAdd, Int.reduceLT, Int.reduceLE, ↓WD, W0, evalOp, Nat.reduceEqDiff, Nat.reduceLT, ↓reduceIte, reduceCtorEq, hl, e0, e1, e5, e25, d239]
            obtain rfl := Option.some.inj qj241
            exact ⟨(by simp only [List.length_set, hl]), (by simp only [W0, Nat.reduceEqDiff, Nat.reduceLT, ↓reduceIte, hl, e0, e1, e5, e25]), (by simp only [W0, Nat.reduceEqDiff, Nat.reduceLT, ↓reduceIte, hl, e0, e1, e5, e25]), (by simp only [W0, Nat.reduceEqDiff, Nat.reduceLT, ↓reduceIte, hl, e0, e1, e5, e25]), (by simp only [W0, Nat.reduceEqDiff, Nat.reduceLT, ↓reduceIte, hl, e0, e1, e5, e25]), S0⟩
          · rw [if_neg c238] at qj241
            have d240 : (decide (57343 < (IntKind.u32.wrap r_))) = false := decide_eq_false c238
            simp only [↓WE, WA, WL, aop, ofValue, ofCell, isConst, abin, acall1, abuiltin, aun, AV.cells, AV.one, Nat.reduceAdd, Int.reduceLT, Int.reduceLE, ↓WD, W0, evalOp, Nat.reduceEqDiff, Nat.reduceLT, ↓reduceIte, reduceCtorEq, hl, e0, e1, e5, e25, d240]
            obtain rfl := Option.some.inj qj241
            exact ⟨(by simp only [List.length_set, hl]), (by simp only [W0, Nat.reduceEqDiff, Nat.reduceLT, ↓reduceIte, hl, e0, e1, e5, e25]), (by simp only [W0, Nat.reduceEqDiff, Nat.reduceLT, ↓reduceIte, hl, e0, e1, e5, e25]), (by simp only [W0, Nat.reduceEqDiff, Nat.reduceLT, ↓reduceIte, hl, e0, e1, e5, e25]), (by simp only [W0, Nat.reduceEqDiff, Nat.reduceLT, ↓reduceIte, hl, e0, e1, e5, e25]), S0⟩
        · rintro envj241 h243 ⟨hl, e0, e1, e5, e25, S242⟩
          try simp only [↓WD, W0, evalOp, Nat.reduceEqDiff, Nat.reduceLT, ↓reduceIte, reduceCtorEq, hl, e0, e1, e5, e25]
          rw [KP_nil, KJ_normal]
          obtain rfl := Option.some.inj qj244
          exact ⟨(by simp only [List.length_set, hl]), (by simp only [W0, Nat.reduceEqDiff, Nat.reduceLT, ↓reduceIte, hl, e0, e1, e5, e25]), (by simp only [W0, Nat.reduceEqDiff, Nat.reduceLT, ↓reduceIte, hl, e0, e1, e5, e25]), (by simp only [W0, Nat.reduceEqDiff, Nat.reduceLT, ↓reduceIte, hl, e0, e1, e5, e25]), (by simp only [W0, Nat.reduceEqDiff, Nat.reduceLT, ↓reduceIte, hl, e0, e1, e5, e25]), S242⟩
    · rintro envj244 h246 ⟨hl, e0, e1, e5, e25, S245⟩
      try simp only [↓WD, W0, evalOp, Nat.reduceEqDiff, Nat.reduceLT, ↓reduceIte, reduceCtorEq, hl, e0, e1, e5, e25]
      refine CondK_boo (fun c340 => ?_) (fun c340 => ?_)
      · rw [if_pos c340] at hF
        try simp only [↓WD, W0, evalOp, Nat.reduceEqDiff, Nat.reduceLT, ↓reduceIte, reduceCtorEq, hl, e0, e1, e5, e25]
        rw [AW_region]
        obtain ⟨y341, qy341, hF⟩ := obind hF
        have oy341 := shr_int (k := .i32) qy341
        have oc342 := fun g : AH => aconv_int (P := Tryd.prog) (h := g) (n := y341) (k' := .i32) Tryd.underlying21 Tryd.underlying5
        obtain ⟨y343, qy343, hF⟩ := obind hF
        have oy343 := shr_int (k := .i32) qy343
        have oc344 := fun g : AH => aconv_int (P := Tryd.prog) (h := g) (n := y343) (k' := .i32) Tryd.underlying21 Tryd.underlying5
        have oc345 := fun g : AH => aconv_int (P := Tryd.prog) (h := g) (n := r_) (k' := .i32) Tryd.underlying21 Tryd.underlying5
        obtain ⟨u346, h347, ob348, S349⟩ := Sep.build (P := Tryd.prog) sl_32 S245 [.int .u8 (orI .u8 224 (IntKind.u8.wrap y341)), .int .u8 (orI .u8 128 (andI .u8 (IntKind.u8.wrap y343) 63)), .int .u8 (orI .u8 128 (andI .u8 (IntKind.u8.wrap r_) 63))] (([orI .u8 224 (IntKind.u8.wrap y341), orI .u8 128 (andI .u8 (IntKind.u8.wrap y343) 63), orI .u8 128 (andI .u8 (IntKind.u8.wrap r_) 63)] : List Int).map (cellI .u8)) rfl (by simp [cellI]) (by simp)
        have ob348 : abuildSlice Tryd.prog 32 3 [(0, .int .u8 (orI .u8 224 (IntKind.u8.wrap y341))), (1, .int .u8 (orI .u8 128 (andI .u8 (IntKind.u8.wrap y343) 63))), (2, .int .u8 (orI .u8 128 (andI .u8 (IntKind.u8.wrap r_) 63)))] h246 = some (u346, h347) := ob348
        have S351 : Sep h (([.row up 5 1 (p.map (cellI .u8))] : List Ent).flatMap Ent.ids) h347 [.row up 5 1 (p.map (cellI .u8)), .row u346 5 1 (([orI .u8 224 (IntKind.u8.wrap y341), orI .u8 128 (andI .u8 (IntKind.u8.wrap y343) 63), orI .u8 128 (andI .u8 (IntKind.u8.wrap r_) 63)] : List Int).map (cellI .u8))] := S349
        obtain ⟨zs352, qzs352, hF⟩ := obind hF
        obtain ⟨u353, h354, op355, S356⟩ := Sep.append (P := Tryd.prog) (t' := 32) sl_32 (by rw [Tryd.underlying32]; rfl) S351 0 rfl (S351.row_ro (i := 1) rfl) (fun _ => rfl) qzs352
        have S357 : Sep h (([.row up 5 1 (p.map (cellI .u8))] : List Ent).flatMap Ent.ids) h354 [.row u353 5 1 (zs352.map (cellI .u8)), .row u346 5 1 (([orI .u8 224 (IntKind.u8.wrap y341), orI .u8 128 (andI .u8 (IntKind.u8.wrap y343) 63), orI .u8 128 (andI .u8 (IntKind.u8.wrap r_) 63)] : List Int).map (cellI .u8))] := S356
        refine AE_joinR (fun e h' => h354 = h' ∧ e.length = 78 ∧ e.getD 4 .undef = u353) (by
          simp only [↓WE, WA, WL, aop, ofValue, ofCell, isConst, abin, acall1, abuiltin, aun, AV.cells, AV.one, Nat.reduceAdd, Int.reduceLT, Int.reduceLE, ↓WD, W0, evalOp, Nat.reduceEqDiff, Nat.reduceLT, ↓reduceIte, reduceCtorEq, hl, e0, e1, e5, e25, oy341, oc342, oy343, oc344, oc345, ob348, op355]
          exact ⟨rfl, (by simp only [List.length_set, hl]), (by simp only [W0, Nat.reduceEqDiff, Nat.reduceLT, ↓reduceIte, hl, e0, e1, e5, e25])⟩) ?_
        rintro envg358 _ ⟨rfl, hl, e4⟩
        try simp only [↓WD, W0, evalOp, Nat.reduceEqDiff, Nat.reduceLT, ↓reduceIte, reduceCtorEq, hl, e4]
        refine KP_ret (vs := [u353]) (by simp only [aresults, aresult, gs, List.length_set, Nat.reduceEqDiff, Nat.reduceLT, ↓reduceIte, hl, e4]) ?_
        obtain rfl := Option.some.inj hF
        exact ⟨u353, rfl, S357.pick [0] (by decide) rfl⟩
      · rw [if_neg (nf c340)] at hF
        try simp only [↓WD, W0, evalOp, Nat.reduceEqDiff, Nat.reduceLT, ↓reduceIte, reduceCtorEq, hl, e0, e1, e5, e25]
        rw [AW_region]
        obtain ⟨j362, qj362, hF⟩ := obind hF
        refine AE_joinR (fun e h' => e.length = 78 ∧ e.getD 0 .undef = up ∧ e.getD 1 .undef = .int .i32 r_ ∧ e.getD 50 .undef = .bool j362 ∧ Sep h (([.row up 5 1 (p.map (cellI .u8))] : List Ent).flatMap Ent.ids) h' [.row up 5 1 (p.map (cellI .u8))]) ?_ ?_
        · simp only [↓WE, WA, WL, aop, ofValue, ofCell, isConst, abin, acall1, abuiltin, aun, AV.cells, AV.one, Nat.reduceAdd, Int.reduceLT, Int.reduceLE, ↓WD, W0, evalOp, Nat.reduceEqDiff, Nat.reduceLT, ↓reduceIte, reduceCtorEq, hl, e0, e1, e5, e25]
          refine GuardW_dec (fun c359 => ?_) (fun c359 => ?_)
          · rw [if_pos c359] at qj362
            have d360 : (decide ((IntKind.u32.wrap r_) > 65535)) = true := decide_eq_true c359
            simp only [↓WE, WA, WL, aop, ofValue, ofCell, isConst, abin, acall1, abuiltin, aun, AV.cells, AV.one, Nat.reduceAdd, Int.reduceLT, Int.reduceLE, ↓WD, W0, evalOp, Nat.reduceEqDiff, Nat.reduceLT, ↓reduceIte, reduceCtorEq, hl, e0, e1, e5, e25, d360]
            obtain rfl := Option.some.inj qj362
            exact ⟨(by simp only [List.length_set, hl]), (by simp only [W0, Nat.reduceEqDiff, Nat.reduceLT, ↓reduceIte, hl, e0, e1, e5, e25]), (by simp only [W0, Nat.reduceEqDiff, Nat.reduceLT, ↓reduceIte, hl, e0, e1, e5, e25]), (by simp only [W0, Nat.reduceEqDiff, Nat.reduceLT, ↓reduceIte, hl, e0, e1, e5, e25]), S245⟩
          · rw [if_neg c359] at qj362
            have d361 : (decide ((IntKind.u32.wrap r_) > 65535)) = false := decide_eq_false c359
            simp only [↓WE, WA, WL, aop, ofValue, ofCell, isConst, abin, acall1, abuiltin, aun, AV.cells, AV.one, Nat.reduceAdd, Int.reduceLT, Int.reduceLE, ↓WD, W0, evalOp, Nat.reduceEqDiff, Nat.reduceLT, ↓reduceIte, reduceCtorEq, hl, e0, e1, e5, e25, d361]
            obtain rfl := Option.some.inj qj362
            exact ⟨(by simp only [List.length_set, hl]), (by simp only [W0, Nat.reduceEqDiff, Nat.reduceLT, ↓reduceIte, hl, e0, e1, e5, e25]), (by simp only [W0, Nat.reduceEqDiff, Nat.reduceLT, ↓reduceIte, hl, e0, e1, e5, e25]), (by simp only [W0, Nat.reduceEqDiff, Nat.reduceLT, ↓reduceIte, hl, e0, e1, e5, e25]), S245⟩
        · rintro envj362 h364 ⟨hl, e0, e1, e50, S363⟩
          try simp only [↓WD, W0, evalOp, Nat.reduceEqDiff, Nat.reduceLT, ↓reduceIte, reduceCtorEq, hl, e0, e1, e50]
          refine CondK_boo (fun c399 => ?_) (fun c399 => ?_)
          · rw [if_pos c399] at hF
            try simp only [↓WD, W0, evalOp, Nat.reduceEqDiff, Nat.reduceLT, ↓reduceIte, reduceCtorEq, hl, e0, e1, e50]
            rw [AW_region]
            obtain ⟨y400, qy400, hF⟩ := obind hF
            have oy400 := shr_int (k := .i32) qy400
            have oc401 := fun g : AH => aconv_int (P := Tryd.prog) (h := g) (n := y400) (k' := .i32) Tryd.underlying21 Tryd.underlying5
            obtain ⟨y402, qy402, hF⟩ := obind hF
            have oy402 := shr_int (k := .i32) qy402
            have oc403 := fun g : AH => aconv_int (P := Tryd.prog) (h := g) (n := y402) (k' := .i32) Tryd.underlying21 Tryd.underlying5
            obtain ⟨y404, qy404, hF⟩ := obind hF
            have oy404 := shr_int (k := .i32) qy404
            have oc405 := fun g : AH => aconv_int (P := Tryd.prog) (h := g) (n := y404) (k' := .i32) Tryd.underlying21 Tryd.underlying5
            have oc406 := fun g : AH => aconv_int (P := Tryd.prog) (h := g) (n := r_) (k' := .i32) Tryd.underlying21 Tryd.underlying5
            obtain ⟨u407, h408, ob409, S410⟩ := Sep.build (P := Tryd.prog) sl_32 S363 [.int .u8 (orI .u8 240 (IntKind.u8.wrap y400)), .int .u8 (orI .u8 128 (andI .u8 (IntKind.u8.wrap y402) 63)), .int .u8 (orI .u8 128 (andI .u8 (IntKind.u8.wrap y404) 63)), .int .u8 (orI .u8 128 (andI .u8 (IntKind.u8.wrap r_) 63))] (([orI .u8 240 (IntKind.u8.wrap y400), orI .u8 128 (andI .u8 (IntKind.u8.wrap y402) 63), orI .u8 128 (andI .u8 (IntKind.u8.wrap y404) 63), orI .u8 128 (andI .u8 (IntKind.u8.wrap r_) 63)] : List Int).map (cellI .u8)) rfl (by simp [cellI]) (by simp)
            have ob409 : abuildSlice Tryd.prog 32 4 [(0, .int .u8 (orI .u8 240 (IntKind.u8.wrap y400))), (1, .int .u8 (orI .u8 128 (andI .u8 (IntKind.u8.wrap y402) 63))), (2, .int .u8 (orI .u8 128 (andI .u8 (IntKind.u8.wrap y404) 63))), (3, .int .u8 (orI .u8 128 (andI .u8 (IntKind.u8.wrap r_) 63)))] h364 = some (u407, h408) := ob409
            have S412 : Sep h (([.row up 5 1 (p.map (cellI .u8))] : List Ent).flatMap Ent.ids) h408 [.row up 5 1 (p.map (cellI .u8)), .row u407 5 1 (([orI .u8 240 (IntKind.u8.wrap y400), orI .u8 128 (andI .u8 (IntKind.u8.wrap y402) 63), orI .u8 128 (andI .u8 (IntKind.u8.wrap y404) 63), orI .u8 128 (andI .u8 (IntKind.u8.wrap r_) 63)] : List Int).map (cellI .u8))] := S410
            obtain ⟨zs413, qzs413, hF⟩ := obind hF
            obtain ⟨u414, h415, op416, S417⟩ := Sep.append (P := Tryd.prog) (t' := 32) sl_32 (by rw [Tryd.underlying32]; rfl) S412 0 rfl (S412.row_ro (i := 1) rfl) (fun _ => rfl) qzs413
            have S418 : Sep h (([.row up 5 1 (p.map (cellI .u8))] : List Ent).flatMap Ent.ids) h415 [.row u414 5 1 (zs413.map (cellI .u8)), .row u407 5 1 (([orI .u8 240 (IntKind.u8.wrap y400), orI .u8 128 (andI .u8 (IntKind.u8.wrap y402) 63), orI .u8 128 (andI .u8 (IntKind.u8.wrap y404) 63), orI .u8 128 (andI .u8 (IntKind.u8.wrap r_) 63)] : List Int).map (cellI .u8))] := S417
            refine AE_joinR (fun e h' => h415 = h' ∧ e.length = 78 ∧ e.getD 4 .undef = u414) (by
              simp only [↓WE, WA, WL, aop, ofValue, ofCell, isConst, abin, acall1, abuiltin, aun, AV.cells, AV.one, Nat.reduceAdd, Int.reduceLT, Int.reduceLE, ↓WD, W0, evalOp, Nat.reduceEqDiff, Nat.reduceLT, ↓reduceIte, reduceCtorEq, hl, e0, e1, e50, oy400, oc401, oy402, oc403, oy404, oc405, oc406, ob409, op416]
              exact ⟨rfl, (by simp only [List.length_set, hl]), (by simp only [W0, Nat.reduceEqDiff, Nat.reduceLT, ↓reduceIte, hl, e0, e1, e50])⟩) ?_
            rintro envg419 _ ⟨rfl, hl, e4⟩
            try simp only [↓WD, W0, evalOp, Nat.reduceEqDiff, Nat.reduceLT, ↓reduceIte, reduceCtorEq, hl, e4]
            refine KP_ret (vs := [u414]) (by simp only [aresults, aresult, gs, List.length_set, Nat.reduceEqDiff, Nat.reduceLT, ↓reduceIte, hl, e4]) ?_
            obtain rfl := Option.some.inj hF
            exact ⟨u414, rfl, S418.pick [0] (by decide) rfl⟩
          · rw [if_neg (nf c399)] at hF
            try simp only [↓WD, W0, evalOp, Nat.reduceEqDiff, Nat.reduceLT, ↓reduceIte, reduceCtorEq, hl, e0, e1, e50]
            rw [AW_region]
            obtain ⟨u420, h421, ob422, S423⟩ := Sep.build (P := Tryd.prog) sl_32 S363 [.int .u8 239, .int .u8 191, .int .u8 189] (([239, 191, 189] : List Int).map (cellI .u8)) rfl (by simp [cellI]) (by simp)
            have ob422 : abuildSlice Tryd.prog 32 3 [(0, .int .u8 239), (1, .int .u8 191), (2, .int .u8 189)] h364 = some (u420, h421) := ob422
            have S425 : Sep h (([.row up 5 1 (p.map (cellI .u8))] : List Ent).flatMap Ent.ids) h421 [.row up 5 1 (p.map (cellI .u8)), .row u420 5 1 (([239, 191, 189] : List Int).map (cellI .u8))] := S423
            obtain ⟨zs426, qzs426, hF⟩ := obind hF
            obtain ⟨u427, h428, op429, S430⟩ := Sep.append (P := Tryd.prog) (t' := 32) sl_32 (by rw [Tryd.underlying32]; rfl) S425 0 rfl (S425.row_ro (i := 1) rfl) (fun _ => rfl) qzs426
            have S431 : Sep h (([.row up 5 1 (p.map (cellI .u8))] : List Ent).flatMap Ent.ids) h428 [.row u427 5 1 (zs426.map (cellI .u8)), .row u420 5 1 (([239, 191, 189] : List Int).map (cellI .u8))] := S430
            refine AE_joinR (fun e h' => h428 = h' ∧ e.length = 78 ∧ e.getD 4 .undef = u427) (by
              simp only [↓WE, WA, WL, aop, ofValue, ofCell, isConst, abin, acall1, abuiltin, aun, AV.cells, AV.one, Nat.reduceAdd, Int.reduceLT, Int.reduceLE, ↓WD, W0, evalOp, Nat.reduceEqDiff, Nat.reduceLT, ↓reduceIte, reduceCtorEq, hl, e0, e1, e50, ob422, op429]
              exact ⟨rfl, (by simp only [List.length_set, hl]), (by simp only [W0, Nat.reduceEqDiff, Nat.reduceLT, ↓reduceIte, hl, e0, e1, e50])⟩) ?_
            rintro envg432 _ ⟨rfl, hl, e4⟩
            try simp only [↓WD, W0, evalOp, Nat.reduceEqDiff, Nat.reduceLT, ↓reduceIte, reduceCtorEq, hl, e4]
            refine KP_ret (vs := [u427]) (by simp only [aresults, aresult, gs, List.length_set, Nat.reduceEqDiff, Nat.reduceLT, ↓reduceIte, hl, e4]) ?_
            obtain rfl := Option.some.inj hF
            exact ⟨u427, rfl, S431.pick [0] (by decide) rfl⟩
set_option maxRecDepth 100000 in
set_option maxHeartbeats 4000000 in
theorem W_unicode_utf8_AppendRune {K : PureK} (n26 : K 26 = none) (n23 : K 23 = none) (m : Nat) (hm : NF + 2 ≤ m) (h : AH) (up : AV) (p : List Int) (hokp : ∀ e ∈ ([.row up 5 1 (p.map (cellI .u8))] : List Ent), e.ok h) (hndp : (([.row up 5 1 (p.map (cellI .u8))] : List Ent).flatMap Ent.ids).Nodup) (r_ : Int) {r : (List Int)} (hF : F_unicode_utf8_AppendRune p r_ = some r) :
    AR (acall Tryd.prog (hooksOf K) (drawnOf Tryd.prog (tabOf K)) m 23 [up, .int .i32 r_] h) (fun v h' => ∃ w0 : AV, v = w0 ∧ Sep h (([.row up 5 1 (p.map (cellI .u8))] : List Ent).flatMap Ent.ids) h' [.row w0 5 1 (r.map (cellI .u8))]) := by
  obtain ⟨m, rfl⟩ : ∃ k, m = k + 1 := ⟨m - 1, by omega⟩
  refine AR_call (hooksOf_none n23) Tryd.func23 rfl _ _ fun env hl he => ?_
  have e0 := he 0
  have e1 := he 1
  simp only [List.getD_cons_zero, List.getD_cons_succ] at e0 e1
  simp only [Tryd.f23] at hl ⊢
  simp only [List.length_cons, List.length_nil, Nat.reduceAdd, Nat.reduceSub] at hl
  clear he
  have S0 : Sep h (([.row up 5 1 (p.map (cellI .u8))] : List Ent).flatMap Ent.ids) h [.row up 5 1 (p.map (cellI .u8))] := Sep.lendN hokp hndp
  rw [F_unicode_utf8_AppendRune] at hF
  try simp only [↓WD, W0, evalOp, Nat.reduceEqDiff, Nat.reduceLT, ↓reduceIte, reduceCtorEq, hl, e0, e1]
  rw [AW_region]
  refine AE_joinR (fun e h' => h = h' ∧ e.length = 16 ∧ e.getD 0 .undef = up ∧ e.getD 1 .undef = .int .i32 r_) (by
    simp only [↓WE, WA, WL, aop, ofValue, ofCell, isConst, abin, acall1, abuiltin, aun, AV.cells, AV.one, Nat.reduceAdd, Int.reduceLT, Int.reduceLE, ↓WD, W0, evalOp, Nat.reduceEqDiff, Nat.reduceLT, ↓reduceIte, reduceCtorEq, hl, e0, e1]
    exact ⟨rfl, (by simp only [List.length_set, hl]), (by simp only [W0, Nat.reduceEqDiff, Nat.reduceLT, ↓reduceIte, hl, e0, e1]), (by simp only [W0, Nat.reduceEqDiff, Nat.reduceLT, ↓reduceIte, hl, e0, e1])⟩) ?_
  rintro envg1 _ ⟨rfl, hl, e0, e1⟩
  try simp only [↓WD, W0, evalOp, Nat.reduceEqDiff, Nat.reduceLT, ↓reduceIte, reduceCtorEq, hl, e0, e1]
  rw [AW_region]
  have oc2 := fun g : AH => aconv_int (P := Tryd.prog) (h := g) (n := r_) (k' := .i32) Tryd.underlying21 Tryd.underlying62
  refine AE_joinR (fun e h' => h = h' ∧ e.length = 16 ∧ e.getD 0 .undef = up ∧ e.getD 1 .undef = .int .i32 r_ ∧ e.getD 7 .undef = .bool (decide ((IntKind.u32.wrap r_) ≤ 127))) (by
    simp only [↓WE, WA, WL, aop, ofValue, ofCell, isConst, abin, acall1, abuiltin, aun, AV.cells, AV.one, Nat.reduceAdd, Int.reduceLT, Int.reduceLE, ↓WD, W0, evalOp, Nat.reduceEqDiff, Nat.reduceLT, ↓reduceIte, reduceCtorEq, hl, e0, e1, oc2]
    exact ⟨rfl, (by simp only [List.length_set, hl]), (by simp only [W0, Nat.reduceEqDiff, Nat.reduceLT, ↓reduceIte, hl, e0, e1]), (by simp only [W0, Nat.reduceEqDiff, Nat.reduceLT, ↓reduceIte, hl, e0, e1]), (by simp only [W0, Nat.reduceEqDiff, Nat.reduceLT, ↓reduceIte, hl, e0, e1])⟩) ?_
  rintro envg3 _ ⟨rfl, hl, e0, e1, e7⟩
  try simp only [↓WD, W0, evalOp, Nat.reduceEqDiff, Nat.reduceLT, ↓reduceIte, reduceCtorEq, hl, e0, e1, e7]
  refine CondK_dec (fun c19 => ?_) (fun c19 => ?_)
  · rw [if_pos c19] at hF
    try simp only [↓WD, W0, evalOp, Nat.reduceEqDiff, Nat.reduceLT, ↓reduceIte, reduceCtorEq, hl, e0, e1, e7]
    rw [AW_region]
    have oc20 := fun g : AH => aconv_int (P := Tryd.prog) (h := g) (n := r_) (k' := .i32) Tryd.underlying21 Tryd.underlying5
    obtain ⟨u21, h22, ob23, S24⟩ := Sep.build (P := Tryd.prog) sl_32 S0 [.int .u8 (IntKind.u8.wrap r_)] (([IntKind.u8.wrap r_] : List Int).map (cellI .u8)) rfl (by simp [cellI]) (by simp)
    have ob23 : abuildSlice Tryd.prog 32 1 [(0, .int .u8 (IntKind.u8.wrap r_))] h = some (u21, h22) := ob23
    have S26 : Sep h (([.row up 5 1 (p.map (cellI .u8))] : List Ent).flatMap Ent.ids) h22 [.row up 5 1 (p.map (cellI .u8)), .row u21 5 1 (([IntKind.u8.wrap r_] : List Int).map (cellI .u8))] := S24
    obtain ⟨zs27, qzs27, hF⟩ := obind hF
    obtain ⟨u28, h29, op30, S31⟩ := Sep.append (P := Tryd.prog) (t' := 32) sl_32 (by rw [Tryd.underlying32]; rfl) S26 0 rfl (S26.row_ro (i := 1) rfl) (fun _ => rfl) qzs27
    have S32 : Sep h (([.row up 5 1 (p.map (cellI .u8))] : List Ent).flatMap Ent.ids) h29 [.row u28 5 1 (zs27.map (cellI .u8)), .row u21 5 1 (([IntKind.u8.wrap r_] : List Int).map (cellI .u8))] := S31
    refine AE_joinR (fun e h' => h29 = h' ∧ e.length = 16 ∧ e.getD 4 .undef = u28) (by
      simp only [↓WE, WA, WL, aop, ofValue, ofCell, isConst, abin, acall1, abuiltin, aun, AV.cells, AV.one, Nat.reduceAdd, Int.reduceLT, Int.reduceLE, ↓WD, W0, evalOp, Nat.reduceEqDiff, Nat.reduceLT, ↓reduceIte, reduceCtorEq, hl, e0, e1, e7, oc20, ob23, op30]
      exact ⟨rfl, (by simp only [List.length_set, hl]), (by simp only [W0, Nat.reduceEqDiff, Nat.reduceLT, ↓reduceIte, hl, e0, e1, e7])⟩) ?_
    rintro envg33 _ ⟨rfl, hl, e4⟩
    try simp only [↓WD, W0, evalOp, Nat.reduceEqDiff, Nat.reduceLT, ↓reduceIte, reduceCtorEq, hl, e4]
    refine KP_ret (vs := [u28]) (by simp only [aresults, aresult, gs, List.length_set, Nat.reduceEqDiff, Nat.reduceLT, ↓reduceIte, hl, e4]) ?_
    obtain rfl := Option.some.inj hF
    exact ⟨u28, rfl, S32.pick [0] (by decide) rfl⟩
  · rw [if_neg c19] at hF
    try simp only [↓WD, W0, evalOp, Nat.reduceEqDiff, Nat.reduceLT, ↓reduceIte, reduceCtorEq, hl, e0, e1, e7]
    rw [AW_region]
    obtain ⟨y34, qy34, hF⟩ := obind hF
    have S36 : Sep h (([.row up 5 1 (p.map (cellI .u8))] : List Ent).flatMap Ent.ids) h ([] ++ [.row up 5 1 (p.map (cellI .u8))]) := S0.pick [0] (by decide) rfl
    obtain ⟨u39, h37, og35, _, rfl, S38⟩ := (W_unicode_utf8_appendRuneNonASCII n26 m (by omega) h up p S36.okA S36.ndA r_ qy34).out
    have S42 : Sep h (([.row up 5 1 (p.map (cellI .u8))] : List Ent).flatMap Ent.ids) h37 [.row u39 5 1 (y34.map (cellI .u8))] := S36.callN S38
    refine AE_joinR (fun e h' => h37 = h' ∧ e.length = 16 ∧ e.getD 4 .undef = u39) (by
      simp only [↓WE, WA, WL, aop, ofValue, ofCell, isConst, abin, acall1, abuiltin, aun, AV.cells, AV.one, Nat.reduceAdd, Int.reduceLT, Int.reduceLE, ↓WD, W0, evalOp, Nat.reduceEqDiff, Nat.reduceLT, ↓reduceIte, reduceCtorEq, hl, e0, e1, e7, og35]
      exact ⟨rfl, (by simp only [List.length_set, hl]), (by simp only [W0, Nat.reduceEqDiff, Nat.reduceLT, ↓reduceIte, hl, e0, e1, e7])⟩) ?_
    rintro envg43 _ ⟨rfl, hl, e4⟩
    try simp only [↓WD, W0, evalOp, Nat.reduceEqDiff, Nat.reduceLT, ↓reduceIte, reduceCtorEq, hl, e4]
    refine KP_ret (vs := [u39]) (by simp only [aresults, aresult, gs, List.length_set, Nat.reduceEqDiff, Nat.reduceLT, ↓reduceIte, hl, e4]) ?_
    obtain rfl := Option.some.inj hF
    exact ⟨u39, rfl, S42⟩
end Go.Proofs.YtikkpmmhejjpaaaDoorM
