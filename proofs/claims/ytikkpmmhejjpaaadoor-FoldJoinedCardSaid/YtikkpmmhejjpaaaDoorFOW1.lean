/- The abstract machine computes what the plain functions say: printed by lift.py. -/
import Derived.Test.YtikkpmmhejjpaaaDoorFOW0
set_option linter.unusedSimpArgs false
set_option linter.unusedVariables false
namespace Go.Proofs.YtikkpmmhejjpaaaDoorM
open Go Go.RowKit
set_option maxRecDepth 100000 in
set_option maxHeartbeats 4000000 in
theorem W_fold_Fold {K : PureK} (k10 : K 10 = some kf_10) (k25 : K 25 = some hb77) (n13 : K 13 = none) (n14 : K 14 = none) (n15 : K 15 = none) (n16 : K 16 = none) (n21 : K 21 = none) (n22 : K 22 = none) (n23 : K 23 = none) (n26 : K 26 = none) (n7 : K 7 = none) (m : Nat) (hm : NF + 5 ≤ m) (h : AH) (hG : GL h) (s_ : List UInt8) {r : (List UInt8)} (hF : F_fold_Fold s_ = some r) :
    AR (acall Tryd.prog (hooksOf K) (drawnOf Tryd.prog (tabOf K)) m 7 [.str s_] h) (fun v h' => v = .str r ∧ Sep h [] h' []) := by
  obtain ⟨m, rfl⟩ : ∃ k, m = k + 1 := ⟨m - 1, by omega⟩
  refine AR_call (hooksOf_none n7) Tryd.func7 rfl _ _ fun env hl he => ?_
  have e0 := he 0
  simp only [List.getD_cons_zero, List.getD_cons_succ] at e0
  simp only [Tryd.f7] at hl ⊢
  simp only [List.length_cons, List.length_nil, Nat.reduceAdd, Nat.reduceSub] at hl
  clear he
  have S0 : Sep h [] h [] := Sep.nil h
  rw [F_fold_Fold] at hF
  try simp only [↓WD, W0, evalOp, Nat.reduceEqDiff, Nat.reduceLT, ↓reduceIte, reduceCtorEq, hl, e0]
  rw [AW_region]
  refine AE_joinR (fun e h' => h = h' ∧ e.length = 40 ∧ e.getD 0 .undef = .str s_) (by
    simp only [↓WE, WA, WL, aop, ofValue, ofCell, isConst, abin, acall1, abuiltin, aun, AV.cells, AV.one, Nat.reduceAdd, Int.reduceLT, Int.reduceLE, ↓WD, W0, evalOp, Nat.reduceEqDiff, Nat.reduceLT, ↓reduceIte, reduceCtorEq, hl, e0]
    exact ⟨rfl, (by simp only [List.length_set, hl]), (by simp only [W0, Nat.reduceEqDiff, Nat.reduceLT, ↓reduceIte, hl, e0])⟩) ?_
  rintro envg1 _ ⟨rfl, hl, e0⟩
  try simp only [↓WD, W0, evalOp, Nat.reduceEqDiff, Nat.reduceLT, ↓reduceIte, reduceCtorEq, hl, e0]
  rw [AW_region]
  obtain ⟨i2, h3, oa4, S5⟩ := S0.allocB
  have S7 : Sep h [] h3 [.bld i2 (.val (.pointer none)) (.val (.slice none 0 0)) 34 5 ([] : List UInt8)] := S5
  refine AE_joinR (fun e h' => h3 = h' ∧ e.length = 40 ∧ e.getD 0 .undef = .str s_ ∧ e.getD 3 .undef = .ptr i2 0) (by
    simp only [↓WE, WA, WL, aop, ofValue, ofCell, isConst, abin, acall1, abuiltin, aun, AV.cells, AV.one, Nat.reduceAdd, Int.reduceLT, Int.reduceLE, ↓WD, W0, evalOp, Nat.reduceEqDiff, Nat.reduceLT, ↓reduceIte, reduceCtorEq, hl, e0, zero_34, oa4]
    exact ⟨rfl, (by simp only [List.length_set, hl]), (by simp only [W0, Nat.reduceEqDiff, Nat.reduceLT, ↓reduceIte, hl, e0]), (by simp only [W0, Nat.reduceEqDiff, Nat.reduceLT, ↓reduceIte, hl, e0])⟩) ?_
  rintro envg8 _ ⟨rfl, hl, e0, e3⟩
  try simp only [↓WD, W0, evalOp, Nat.reduceEqDiff, Nat.reduceLT, ↓reduceIte, reduceCtorEq, hl, e0, e3]
  rw [AW_region]
  refine AE_joinR (fun e h' => h3 = h' ∧ e.length = 40 ∧ e.getD 0 .undef = .str s_ ∧ e.getD 3 .undef = .ptr i2 0 ∧ e.getD 4 .undef = .int .i64 0) (by
    simp only [↓WE, WA, WL, aop, ofValue, ofCell, isConst, abin, acall1, abuiltin, aun, AV.cells, AV.one, Nat.reduceAdd, Int.reduceLT, Int.reduceLE, ↓WD, W0, evalOp, Nat.reduceEqDiff, Nat.reduceLT, ↓reduceIte, reduceCtorEq, hl, e0, e3]
    exact ⟨rfl, (by simp only [List.length_set, hl]), (by simp only [W0, Nat.reduceEqDiff, Nat.reduceLT, ↓reduceIte, hl, e0, e3]), (by simp only [W0, Nat.reduceEqDiff, Nat.reduceLT, ↓reduceIte, hl, e0, e3]), (by simp only [W0, Nat.reduceEqDiff, Nat.reduceLT, ↓reduceIte, hl, e0, e3])⟩) ?_
  rintro envg9 _ ⟨rfl, hl, e0, e3, e4⟩
  try simp only [↓WD, W0, evalOp, Nat.reduceEqDiff, Nat.reduceLT, ↓reduceIte, reduceCtorEq, hl, e0, e3, e4]
  obtain ⟨r108, qr108, hF⟩ := obind hF
  refine AW_lift (L_fold_Fold_1 s_) (fun s e h' => ∃ (p58 : AV), ∃ (u59 : AV), e.length = 40 ∧ e.getD 0 .undef = .str s_ ∧ e.getD 3 .undef = .ptr i2 0 ∧ e.getD 4 .undef = .int .i64 s.2 ∧ Sep h [] h' [.bld i2 p58 u59 34 5 s.1]) (fun r108 x e h' => ∃ (p109 : AV), ∃ (u110 : AV), x = .exit 0 ∧ e.length = 40 ∧ e.getD 3 .undef = .ptr i2 0 ∧ Sep h [] h' [.bld i2 p109 u110 34 5 r108]) qr108 (by omega) ?_ ?_ ?_
  · rintro s envr108 h60 or108 ⟨p58, u59, hl, e0, e3, e4, S61⟩ wr108
    rw [L_fold_Fold_1] at wr108
    try simp only [↓WD, W0, evalOp, Nat.reduceEqDiff, Nat.reduceLT, ↓reduceIte, reduceCtorEq, hl, e0, e3, e4]
    rw [AW_region]
    have ol62 := fun g : AH => alen_str (P := Tryd.prog) (h := g) (l := s_) Tryd.underlying9
    refine AE_joinR (fun e h' => h60 = h' ∧ e.length = 40 ∧ e.getD 0 .undef = .str s_ ∧ e.getD 3 .undef = .ptr i2 0 ∧ e.getD 4 .undef = .int .i64 s.2 ∧ e.getD 11 .undef = .bool (decide (s.2 < (s_.length : Int)))) (by
      simp only [↓WE, WA, WL, aop, ofValue, ofCell, isConst, abin, acall1, abuiltin, aun, AV.cells, AV.one, Nat.reduceAdd, Int.reduceLT, Int.reduceLE, ↓WD, W0, evalOp, Nat.reduceEqDiff, Nat.reduceLT, ↓reduceIte, reduceCtorEq, hl, e0, e3, e4, ol62]
      exact ⟨rfl, (by simp only [List.length_set, hl]), (by simp only [W0, Nat.reduceEqDiff, Nat.reduceLT, ↓reduceIte, hl, e0, e3, e4]), (by simp only [W0, Nat.reduceEqDiff, Nat.reduceLT, ↓reduceIte, hl, e0, e3, e4]), (by simp only [W0, Nat.reduceEqDiff, Nat.reduceLT, ↓reduceIte, hl, e0, e3, e4]), (by simp only [W0, Nat.reduceEqDiff, Nat.reduceLT, ↓reduceIte, hl, e0, e3, e4])⟩) ?_
    rintro envg63 _ ⟨rfl, hl, e0, e3, e4, e11⟩
    try simp only [↓WD, W0, evalOp, Nat.reduceEqDiff, Nat.reduceLT, ↓reduceIte, reduceCtorEq, hl, e0, e3, e4, e11]
    refine CondK_dec (fun c65 => ?_) (fun c65 => ?_)
    · rw [if_pos c65] at wr108
      try simp only [↓WD, W0, evalOp, Nat.reduceEqDiff, Nat.reduceLT, ↓reduceIte, reduceCtorEq, hl, e0, e3, e4, e11]
      rw [AW_region]
      obtain ⟨s66, qs66, wr108⟩ := obind wr108
      have os66 := fun g : AH => sub_strF (P := Tryd.prog) (h := g) (k := .i64) Tryd.underlying9 qs66
      obtain ⟨y67, qy67, wr108⟩ := obind wr108
      obtain ⟨v71, h69, og68, rfl, S70⟩ := (W_unicode_utf8_DecodeRuneInString n21 n13 m (by omega) h60 (GL.keep0 S61 hG) s66 qy67).out
      have S72 : Sep h [] h69 [.bld i2 p58 u59 34 5 s.1] := S61.call0 S70
      refine AE_joinR (fun e h' => h69 = h' ∧ e.length = 40 ∧ e.getD 0 .undef = .str s_ ∧ e.getD 3 .undef = .ptr i2 0 ∧ e.getD 4 .undef = .int .i64 s.2 ∧ e.getD 5 .undef = .int .i32 y67.1 ∧ e.getD 6 .undef = .int .i64 y67.2) (by
        simp only [↓WE, WA, WL, aop, ofValue, ofCell, isConst, abin, acall1, abuiltin, aun, AV.cells, AV.one, Nat.reduceAdd, Int.reduceLT, Int.reduceLE, ↓WD, W0, evalOp, Nat.reduceEqDiff, Nat.reduceLT, ↓reduceIte, reduceCtorEq, hl, e0, e3, e4, e11, os66, og68]
        exact ⟨rfl, (by simp only [List.length_set, hl]), (by simp only [W0, Nat.reduceEqDiff, Nat.reduceLT, ↓reduceIte, hl, e0, e3, e4, e11]), (by simp only [W0, Nat.reduceEqDiff, Nat.reduceLT, ↓reduceIte, hl, e0, e3, e4, e11]), (by simp only [W0, Nat.reduceEqDiff, Nat.reduceLT, ↓reduceIte, hl, e0, e3, e4, e11]), (by simp only [W0, Nat.reduceEqDiff, Nat.reduceLT, ↓reduceIte, hl, e0, e3, e4, e11]), (by simp only [W0, Nat.reduceEqDiff, Nat.reduceLT, ↓reduceIte, hl, e0, e3, e4, e11])⟩) ?_
      rintro envg73 _ ⟨rfl, hl, e0, e3, e4, e5, e6⟩
      try simp only [↓WD, W0, evalOp, Nat.reduceEqDiff, Nat.reduceLT, ↓reduceIte, reduceCtorEq, hl, e0, e3, e4, e5, e6]
      rw [AW_region]
      have oc74 := fun g : AH => aconv_int (P := Tryd.prog) (h := g) (n := y67.1) (k' := .i32) Tryd.underlying21 Tryd.underlying3
      obtain ⟨y75, qy75, wr108⟩ := obind wr108
      have og76 := fun (D : Drawn) (n : Nat) (g : AH) => call_hook (P := Tryd.prog) (D := D) k10 n (args := [.int .i64 (IntKind.i64.wrap y67.1)]) (v := .int .i64 y75) ((kf_10_eq (IntKind.i64.wrap y67.1)).trans (by rw [qy75]; rfl)) g
      refine AE_joinR (fun e h' => h69 = h' ∧ e.length = 40 ∧ e.getD 0 .undef = .str s_ ∧ e.getD 3 .undef = .ptr i2 0 ∧ e.getD 4 .undef = .int .i64 s.2 ∧ e.getD 5 .undef = .int .i32 y67.1 ∧ e.getD 6 .undef = .int .i64 y67.2 ∧ e.getD 7 .undef = .int .i64 y75) (by
        simp only [↓WE, WA, WL, aop, ofValue, ofCell, isConst, abin, acall1, abuiltin, aun, AV.cells, AV.one, Nat.reduceAdd, Int.reduceLT, Int.reduceLE, ↓WD, W0, evalOp, Nat.reduceEqDiff, Nat.reduceLT, ↓reduceIte, reduceCtorEq, hl, e0, e3, e4, e5, e6, oc74, og76]
        exact ⟨rfl, (by simp only [List.length_set, hl]), (by simp only [W0, Nat.reduceEqDiff, Nat.reduceLT, ↓reduceIte, hl, e0, e3, e4, e5, e6]), (by simp only [W0, Nat.reduceEqDiff, Nat.reduceLT, ↓reduceIte, hl, e0, e3, e4, e5, e6]), (by simp only [W0, Nat.reduceEqDiff, Nat.reduceLT, ↓reduceIte, hl, e0, e3, e4, e5, e6]), (by simp only [W0, Nat.reduceEqDiff, Nat.reduceLT, ↓reduceIte, hl, e0, e3, e4, e5, e6]), (by simp only [W0, Nat.reduceEqDiff, Nat.reduceLT, ↓reduceIte, hl, e0, e3, e4, e5, e6]), (by simp only [W0, Nat.reduceEqDiff, Nat.reduceLT, ↓reduceIte, hl, e0, e3, e4, e5, e6])⟩) ?_
      rintro envg77 _ ⟨rfl, hl, e0, e3, e4, e5, e6, e7⟩
      try simp only [↓WD, W0, evalOp, Nat.reduceEqDiff, Nat.reduceLT, ↓reduceIte, reduceCtorEq, hl, e0, e3, e4, e5, e6, e7]
      rw [AW_region]
      have oc78 := fun g : AH => aconv_int (P := Tryd.prog) (h := g) (n := y67.1) (k' := .i32) Tryd.underlying21 Tryd.underlying3
      refine AE_joinR (fun e h' => h69 = h' ∧ e.length = 40 ∧ e.getD 0 .undef = .str s_ ∧ e.getD 3 .undef = .ptr i2 0 ∧ e.getD 4 .undef = .int .i64 s.2 ∧ e.getD 6 .undef = .int .i64 y67.2 ∧ e.getD 7 .undef = .int .i64 y75 ∧ e.getD 25 .undef = .bool (y75 != (IntKind.i64.wrap y67.1))) (by
        simp only [↓WE, WA, WL, aop, ofValue, ofCell, isConst, abin, acall1, abuiltin, aun, AV.cells, AV.one, Nat.reduceAdd, Int.reduceLT, Int.reduceLE, ↓WD, W0, evalOp, Nat.reduceEqDiff, Nat.reduceLT, ↓reduceIte, reduceCtorEq, hl, e0, e3, e4, e5, e6, e7, oc78]
        exact ⟨rfl, (by simp only [List.length_set, hl]), (by simp only [W0, Nat.reduceEqDiff, Nat.reduceLT, ↓reduceIte, hl, e0, e3, e4, e5, e6, e7]), (by simp only [W0, Nat.reduceEqDiff, Nat.reduceLT, ↓reduceIte, hl, e0, e3, e4, e5, e6, e7]), (by simp only [W0, Nat.reduceEqDiff, Nat.reduceLT, ↓reduceIte, hl, e0, e3, e4, e5, e6, e7]), (by simp only [W0, Nat.reduceEqDiff, Nat.reduceLT, ↓reduceIte, hl, e0, e3, e4, e5, e6, e7]), (by simp only [W0, Nat.reduceEqDiff, Nat.reduceLT, ↓reduceIte, hl, e0, e3, e4, e5, e6, e7]), (by simp only [W0, Nat.reduceEqDiff, Nat.reduceLT, ↓reduceIte, hl, e0, e3, e4, e5, e6, e7])⟩) ?_
      rintro envg79 _ ⟨rfl, hl, e0, e3, e4, e6, e7, e25⟩
      try simp only [↓WD, W0, evalOp, Nat.reduceEqDiff, Nat.reduceLT, ↓reduceIte, reduceCtorEq, hl, e0, e3, e4, e6, e7, e25]
      obtain ⟨j100, qj100, wr108⟩ := obind wr108
      refine CondK_join (fun e h' => ∃ (p101 : AV), ∃ (u102 : AV), e.length = 40 ∧ e.getD 0 .undef = .str s_ ∧ e.getD 3 .undef = .ptr i2 0 ∧ e.getD 4 .undef = .int .i64 s.2 ∧ e.getD 6 .undef = .int .i64 y67.2 ∧ Sep h [] h' [.bld i2 p101 u102 34 5 j100]) ?_ ?_
      · refine CondK_boo (fun c80 => ?_) (fun c80 => ?_)
        · rw [if_pos c80] at qj100
          try simp only [↓WD, W0, evalOp, Nat.reduceEqDiff, Nat.reduceLT, ↓reduceIte, reduceCtorEq, hl, e0, e3, e4, e6, e7, e25]
          rw [AW_region]
          have oc81 := fun g : AH => aconv_int (P := Tryd.prog) (h := g) (n := y75) (k' := .i64) Tryd.underlying3 Tryd.underlying21
          obtain ⟨y82, qy82, qj100⟩ := obind qj100
          obtain ⟨b83, qb83, qj100⟩ := obind qj100
          obtain ⟨p84, u85, h86, ow87, S88⟩ := S72.brune (T := tabOf K) k25 n22 n14 0 rfl qb83 m (by unfold NF at hm; omega) (fun g u hok hnd => W_unicode_utf8_AppendRune n26 n23 (m - 1) (by omega) g u _ hok hnd (IntKind.i32.wrap y75) qy82)
          have S89 : Sep h [] h86 [.bld i2 p84 u85 34 5 b83] := S88
          refine AE_joinR (fun e h' => h86 = h' ∧ e.length = 40 ∧ e.getD 0 .undef = .str s_ ∧ e.getD 3 .undef = .ptr i2 0 ∧ e.getD 4 .undef = .int .i64 s.2 ∧ e.getD 6 .undef = .int .i64 y67.2) (by
            simp only [↓WE, WA, WL, aop, ofValue, ofCell, isConst, abin, acall1, abuiltin, aun, AV.cells, AV.one, Nat.reduceAdd, Int.reduceLT, Int.reduceLE, ↓WD, W0, evalOp, Nat.reduceEqDiff, Nat.reduceLT, ↓reduceIte, reduceCtorEq, hl, e0, e3, e4, e6, e7, e25, oc81, ow87]
            exact ⟨rfl, (by simp only [List.length_set, hl]), (by simp only [W0, Nat.reduceEqDiff, Nat.reduceLT, ↓reduceIte, hl, e0, e3, e4, e6, e7, e25]), (by simp only [W0, Nat.reduceEqDiff, Nat.reduceLT, ↓reduceIte, hl, e0, e3, e4, e6, e7, e25]), (by simp only [W0, Nat.reduceEqDiff, Nat.reduceLT, ↓reduceIte, hl, e0, e3, e4, e6, e7, e25]), (by simp only [W0, Nat.reduceEqDiff, Nat.reduceLT, ↓reduceIte, hl, e0, e3, e4, e6, e7, e25])⟩) ?_
          rintro envg90 _ ⟨rfl, hl, e0, e3, e4, e6⟩
          try simp only [↓WD, W0, evalOp, Nat.reduceEqDiff, Nat.reduceLT, ↓reduceIte, reduceCtorEq, hl, e0, e3, e4, e6]
          rw [KP_nil, KJ_normal]
          obtain rfl := Option.some.inj qj100
          exact ⟨p84, u85, (by simp only [List.length_set, hl]), (by simp only [W0, Nat.reduceEqDiff, Nat.reduceLT, ↓reduceIte, hl, e0, e3, e4, e6]), (by simp only [W0, Nat.reduceEqDiff, Nat.reduceLT, ↓reduceIte, hl, e0, e3, e4, e6]), (by simp only [W0, Nat.reduceEqDiff, Nat.reduceLT, ↓reduceIte, hl, e0, e3, e4, e6]), (by simp only [W0, Nat.reduceEqDiff, Nat.reduceLT, ↓reduceIte, hl, e0, e3, e4, e6]), S89⟩
        · rw [if_neg (nf c80)] at qj100
          try simp only [↓WD, W0, evalOp, Nat.reduceEqDiff, Nat.reduceLT, ↓reduceIte, reduceCtorEq, hl, e0, e3, e4, e6, e7, e25]
          rw [AW_region]
          obtain ⟨s91, qs91, qj100⟩ := obind qj100
          have os91 := fun g : AH => sub_str (P := Tryd.prog) (h := g) (k := .i64) (k' := .i64) Tryd.underlying9 qs91
          obtain ⟨b92, qb92, qj100⟩ := obind qj100
          obtain ⟨p93, u94, h95, ow96, S97⟩ := S72.bwrite (T := tabOf K) k25 n22 n15 0 rfl qb92 m (by omega)
          have S98 : Sep h [] h95 [.bld i2 p93 u94 34 5 b92] := S97
          refine AE_joinR (fun e h' => h95 = h' ∧ e.length = 40 ∧ e.getD 0 .undef = .str s_ ∧ e.getD 3 .undef = .ptr i2 0 ∧ e.getD 4 .undef = .int .i64 s.2 ∧ e.getD 6 .undef = .int .i64 y67.2) (by
            simp only [↓WE, WA, WL, aop, ofValue, ofCell, isConst, abin, acall1, abuiltin, aun, AV.cells, AV.one, Nat.reduceAdd, Int.reduceLT, Int.reduceLE, ↓WD, W0, evalOp, Nat.reduceEqDiff, Nat.reduceLT, ↓reduceIte, reduceCtorEq, hl, e0, e3, e4, e6, e7, e25, os91, ow96]
            exact ⟨rfl, (by simp only [List.length_set, hl]), (by simp only [W0, Nat.reduceEqDiff, Nat.reduceLT, ↓reduceIte, hl, e0, e3, e4, e6, e7, e25]), (by simp only [W0, Nat.reduceEqDiff, Nat.reduceLT, ↓reduceIte, hl, e0, e3, e4, e6, e7, e25]), (by simp only [W0, Nat.reduceEqDiff, Nat.reduceLT, ↓reduceIte, hl, e0, e3, e4, e6, e7, e25]), (by simp only [W0, Nat.reduceEqDiff, Nat.reduceLT, ↓reduceIte, hl, e0, e3, e4, e6, e7, e25])⟩) ?_
          rintro envg99 _ ⟨rfl, hl, e0, e3, e4, e6⟩
          try simp only [↓WD, W0, evalOp, Nat.reduceEqDiff, Nat.reduceLT, ↓reduceIte, reduceCtorEq, hl, e0, e3, e4, e6]
          rw [KP_nil, KJ_normal]
          obtain rfl := Option.some.inj qj100
          exact ⟨p93, u94, (by simp only [List.length_set, hl]), (by simp only [W0, Nat.reduceEqDiff, Nat.reduceLT, ↓reduceIte, hl, e0, e3, e4, e6]), (by simp only [W0, Nat.reduceEqDiff, Nat.reduceLT, ↓reduceIte, hl, e0, e3, e4, e6]), (by simp only [W0, Nat.reduceEqDiff, Nat.reduceLT, ↓reduceIte, hl, e0, e3, e4, e6]), (by simp only [W0, Nat.reduceEqDiff, Nat.reduceLT, ↓reduceIte, hl, e0, e3, e4, e6]), S98⟩
      · rintro envj100 h104 ⟨p101, u102, hl, e0, e3, e4, e6, S103⟩
        try simp only [↓WD, W0, evalOp, Nat.reduceEqDiff, Nat.reduceLT, ↓reduceIte, reduceCtorEq, hl, e0, e3, e4, e6]
        rw [AW_region]
        refine AE_joinR (fun e h' => h104 = h' ∧ e.length = 40 ∧ e.getD 0 .undef = .str s_ ∧ e.getD 3 .undef = .ptr i2 0 ∧ e.getD 4 .undef = .int .i64 (IntKind.i64.wrap (s.2 + y67.2))) (by
          simp only [↓WE, WA, WL, aop, ofValue, ofCell, isConst, abin, acall1, abuiltin, aun, AV.cells, AV.one, Nat.reduceAdd, Int.reduceLT, Int.reduceLE, ↓WD, W0, evalOp, Nat.reduceEqDiff, Nat.reduceLT, ↓reduceIte, reduceCtorEq, hl, e0, e3, e4, e6]
          exact ⟨rfl, (by simp only [List.length_set, hl]), (by simp only [W0, Nat.reduceEqDiff, Nat.reduceLT, ↓reduceIte, hl, e0, e3, e4, e6]), (by simp only [W0, Nat.reduceEqDiff, Nat.reduceLT, ↓reduceIte, hl, e0, e3, e4, e6]), (by simp only [W0, Nat.reduceEqDiff, Nat.reduceLT, ↓reduceIte, hl, e0, e3, e4, e6])⟩) ?_
        rintro envg105 _ ⟨rfl, hl, e0, e3, e4⟩
        try simp only [↓WD, W0, evalOp, Nat.reduceEqDiff, Nat.reduceLT, ↓reduceIte, reduceCtorEq, hl, e0, e3, e4]
        obtain rfl := Option.some.inj wr108
        rw [KP_nil, QL_normal]
        exact ⟨_, rfl, p101, u102, (by simp only [List.length_set, hl]), (by simp only [W0, Nat.reduceEqDiff, Nat.reduceLT, ↓reduceIte, hl, e0, e3, e4]), (by simp only [W0, Nat.reduceEqDiff, Nat.reduceLT, ↓reduceIte, hl, e0, e3, e4]), (by simp only [W0, Nat.reduceEqDiff, Nat.reduceLT, ↓reduceIte, hl, e0, e3, e4]), S103⟩
    · rw [if_neg c65] at wr108
      try simp only [↓WD, W0, evalOp, Nat.reduceEqDiff, Nat.reduceLT, ↓reduceIte, reduceCtorEq, hl, e0, e3, e4, e11]
      obtain rfl := Option.some.inj wr108
      rw [KP_nil, QL_exit]
      exact ⟨_, rfl, p58, u59, rfl, (by simp only [List.length_set, hl]), (by simp only [W0, Nat.reduceEqDiff, Nat.reduceLT, ↓reduceIte, hl, e0, e3, e4, e11]), S61⟩
  · exact ⟨.val (.pointer none), .val (.slice none 0 0), (by simp only [List.length_set, hl]), (by simp only [W0, Nat.reduceEqDiff, Nat.reduceLT, ↓reduceIte, hl, e0, e3, e4]), (by simp only [W0, Nat.reduceEqDiff, Nat.reduceLT, ↓reduceIte, hl, e0, e3, e4]), (by simp only [W0, Nat.reduceEqDiff, Nat.reduceLT, ↓reduceIte, hl, e0, e3, e4]), S7⟩
  · rintro x envr108 h111 ⟨p109, u110, rfl, hl, e3, S112⟩
    try simp only [↓WD, W0, evalOp, Nat.reduceEqDiff, Nat.reduceLT, ↓reduceIte, reduceCtorEq, hl, e3]
    rw [AW_region]
    obtain ⟨_, q116, hF⟩ := obind hF
    obtain ⟨h113, ow114, S115⟩ := S112.bstring (T := tabOf K) n16 0 rfl (chkCap_le q116) rfl m (by omega)
    have S117 : Sep h [] h113 [] := S115
    refine AE_joinR (fun e h' => h113 = h' ∧ e.length = 40 ∧ e.getD 2 .undef = .str r108) (by
      simp only [↓WE, WA, WL, aop, ofValue, ofCell, isConst, abin, acall1, abuiltin, aun, AV.cells, AV.one, Nat.reduceAdd, Int.reduceLT, Int.reduceLE, ↓WD, W0, evalOp, Nat.reduceEqDiff, Nat.reduceLT, ↓reduceIte, reduceCtorEq, hl, e3, ow114]
      exact ⟨rfl, (by simp only [List.length_set, hl]), (by simp only [W0, Nat.reduceEqDiff, Nat.reduceLT, ↓reduceIte, hl, e3])⟩) ?_
    rintro envg118 _ ⟨rfl, hl, e2⟩
    try simp only [↓WD, W0, evalOp, Nat.reduceEqDiff, Nat.reduceLT, ↓reduceIte, reduceCtorEq, hl, e2]
    refine KP_ret (vs := [.str r108]) (by simp only [aresults, aresult, gs, List.length_set, Nat.reduceEqDiff, Nat.reduceLT, ↓reduceIte, hl, e2]) ?_
    obtain rfl := Option.some.inj hF
    exact ⟨rfl, S117⟩
set_option maxRecDepth 100000 in
set_option maxHeartbeats 4000000 in
theorem W_fold_Alike {K : PureK} (k10 : K 10 = some kf_10) (k25 : K 25 = some hb77) (n7 : K 7 = none) (n13 : K 13 = none) (n14 : K 14 = none) (n15 : K 15 = none) (n16 : K 16 = none) (n21 : K 21 = none) (n22 : K 22 = none) (n23 : K 23 = none) (n26 : K 26 = none) (n9 : K 9 = none) (m : Nat) (hm : NF + 6 ≤ m) (h : AH) (hG : GL h) (a : List UInt8) (b : List UInt8) {r : Bool} (hF : F_fold_Alike a b = some r) :
    AR (acall Tryd.prog (hooksOf K) (drawnOf Tryd.prog (tabOf K)) m 9 [.str a, .str b] h) (fun v h' => v = .bool r ∧ Sep h [] h' []) := by
  obtain ⟨m, rfl⟩ : ∃ k, m = k + 1 := ⟨m - 1, by omega⟩
  refine AR_call (hooksOf_none n9) Tryd.func9 rfl _ _ fun env hl he => ?_
  have e0 := he 0
  have e1 := he 1
  simp only [List.getD_cons_zero, List.getD_cons_succ] at e0 e1
  simp only [Tryd.f9] at hl ⊢
  simp only [List.length_cons, List.length_nil, Nat.reduceAdd, Nat.reduceSub] at hl
  clear he
  have S0 : Sep h [] h [] := Sep.nil h
  rw [F_fold_Alike] at hF
  try simp only [↓WD, W0, evalOp, Nat.reduceEqDiff, Nat.reduceLT, ↓reduceIte, reduceCtorEq, hl, e0, e1]
  rw [AW_region]
  refine AE_joinR (fun e h' => h = h' ∧ e.length = 10 ∧ e.getD 0 .undef = .str a ∧ e.getD 1 .undef = .str b) (by
    simp only [↓WE, WA, WL, aop, ofValue, ofCell, isConst, abin, acall1, abuiltin, aun, AV.cells, AV.one, Nat.reduceAdd, Int.reduceLT, Int.reduceLE, ↓WD, W0, evalOp, Nat.reduceEqDiff, Nat.reduceLT, ↓reduceIte, reduceCtorEq, hl, e0, e1]
    exact ⟨rfl, (by simp only [List.length_set, hl]), (by simp only [W0, Nat.reduceEqDiff, Nat.reduceLT, ↓reduceIte, hl, e0, e1]), (by simp only [W0, Nat.reduceEqDiff, Nat.reduceLT, ↓reduceIte, hl, e0, e1])⟩) ?_
  rintro envg1 _ ⟨rfl, hl, e0, e1⟩
  try simp only [↓WD, W0, evalOp, Nat.reduceEqDiff, Nat.reduceLT, ↓reduceIte, reduceCtorEq, hl, e0, e1]
  rw [AW_region]
  obtain ⟨y2, qy2, hF⟩ := obind hF
  obtain ⟨v6, h4, og3, rfl, S5⟩ := (W_fold_Fold k10 k25 n13 n14 n15 n16 n21 n22 n23 n26 n7 m (by omega) h (GL.keep0 S0 hG) a qy2).out
  have S7 : Sep h [] h4 [] := S0.call0 S5
  obtain ⟨y8, qy8, hF⟩ := obind hF
  obtain ⟨v12, h10, og9, rfl, S11⟩ := (W_fold_Fold k10 k25 n13 n14 n15 n16 n21 n22 n23 n26 n7 m (by omega) h4 (GL.keep0 S7 hG) b qy8).out
  have S13 : Sep h [] h10 [] := S7.call0 S11
  refine AE_joinR (fun e h' => h10 = h' ∧ e.length = 10 ∧ e.getD 4 .undef = .bool (y2 == y8)) (by
    simp only [↓WE, WA, WL, aop, ofValue, ofCell, isConst, abin, acall1, abuiltin, aun, AV.cells, AV.one, Nat.reduceAdd, Int.reduceLT, Int.reduceLE, ↓WD, W0, evalOp, Nat.reduceEqDiff, Nat.reduceLT, ↓reduceIte, reduceCtorEq, hl, e0, e1, og3, og9]
    exact ⟨rfl, (by simp only [List.length_set, hl]), (by simp only [W0, Nat.reduceEqDiff, Nat.reduceLT, ↓reduceIte, hl, e0, e1])⟩) ?_
  rintro envg14 _ ⟨rfl, hl, e4⟩
  try simp only [↓WD, W0, evalOp, Nat.reduceEqDiff, Nat.reduceLT, ↓reduceIte, reduceCtorEq, hl, e4]
  refine KP_ret (vs := [.bool (y2 == y8)]) (by simp only [aresults, aresult, gs, List.length_set, Nat.reduceEqDiff, Nat.reduceLT, ↓reduceIte, hl, e4]) ?_
  obtain rfl := Option.some.inj hF
  exact ⟨rfl, S13⟩
set_option maxRecDepth 100000 in
set_option maxHeartbeats 4000000 in
theorem W_law14_awake {K : PureK} (k10 : K 10 = some kf_10) (k25 : K 25 = some hb77) (n7 : K 7 = none) (n9 : K 9 = none) (n12 : K 12 = none) (n13 : K 13 = none) (n14 : K 14 = none) (n15 : K 15 = none) (n16 : K 16 = none) (n21 : K 21 = none) (n22 : K 22 = none) (n23 : K 23 = none) (n26 : K 26 = none) (n6 : K 6 = none) (m : Nat) (hm : NF + 7 ≤ m) (h : AH) (hG : GL h)  {r : Bool} (hF : F_law14_awake  = some r) :
    AR (acall Tryd.prog (hooksOf K) (drawnOf Tryd.prog (tabOf K)) m 6 [] h) (fun v h' => v = .bool r ∧ Sep h [] h' []) := by
  obtain ⟨m, rfl⟩ : ∃ k, m = k + 1 := ⟨m - 1, by omega⟩
  refine AR_call (hooksOf_none n6) Tryd.func6 rfl _ _ fun env hl he => ?_
  simp only [Tryd.f6] at hl ⊢
  simp only [List.length_cons, List.length_nil, Nat.reduceAdd, Nat.reduceSub] at hl
  clear he
  have S0 : Sep h [] h [] := Sep.nil h
  rw [F_law14_awake] at hF
  try simp only [↓WD, W0, evalOp, Nat.reduceEqDiff, Nat.reduceLT, ↓reduceIte, reduceCtorEq, hl]
  rw [AW_region]
  refine AE_joinR (fun e h' => h = h' ∧ e.length = 19) (by
    simp only [↓WE, WA, WL, aop, ofValue, ofCell, isConst, abin, acall1, abuiltin, aun, AV.cells, AV.one, Nat.reduceAdd, Int.reduceLT, Int.reduceLE, ↓WD, W0, evalOp, Nat.reduceEqDiff, Nat.reduceLT, ↓reduceIte, reduceCtorEq, hl]
    exact ⟨rfl, (by simp only [List.length_set, hl])⟩) ?_
  rintro envg1 _ ⟨rfl, hl⟩
  try simp only [↓WD, W0, evalOp, Nat.reduceEqDiff, Nat.reduceLT, ↓reduceIte, reduceCtorEq, hl]
  rw [AW_region]
  obtain ⟨j43, qj43, hF⟩ := obind hF
  refine AE_joinR (fun e h' => e.length = 19 ∧ e.getD 0 .undef = .bool j43 ∧ Sep h [] h' []) ?_ ?_
  · obtain ⟨y2, qy2, qj43⟩ := obind qj43
    obtain ⟨v6, h4, og3, rfl, S5⟩ := (W_fold_Fold k10 k25 n13 n14 n15 n16 n21 n22 n23 n26 n7 m (by omega) h (GL.keep0 S0 hG) [65, 195, 169, 47, 195, 137] qy2).out
    have S7 : Sep h [] h4 [] := S0.call0 S5
    simp only [↓WE, WA, WL, aop, ofValue, ofCell, isConst, abin, acall1, abuiltin, aun, AV.cells, AV.one, Nat.reduceAdd, Int.reduceLT, Int.reduceLE, ↓WD, W0, evalOp, Nat.reduceEqDiff, Nat.reduceLT, ↓reduceIte, reduceCtorEq, hl, og3]
    refine GuardW_boo (fun c8 => ?_) (fun c8 => ?_)
    · rw [if_pos c8] at qj43
      have d9 := c8
      obtain ⟨y11, qy11, qj43⟩ := obind qj43
      have og12 := fun (D : Drawn) (n : Nat) (g : AH) => call_hook (P := Tryd.prog) (D := D) k10 n (args := [.int .i64 90]) (v := .int .i64 y11) ((kf_10_eq 90).trans (by rw [qy11]; rfl)) g
      simp only [↓WE, WA, WL, aop, ofValue, ofCell, isConst, abin, acall1, abuiltin, aun, AV.cells, AV.one, Nat.reduceAdd, Int.reduceLT, Int.reduceLE, ↓WD, W0, evalOp, Nat.reduceEqDiff, Nat.reduceLT, ↓reduceIte, reduceCtorEq, hl, og3, og12, d9]
      refine GuardW_boo (fun c13 => ?_) (fun c13 => ?_)
      · rw [if_pos c13] at qj43
        have d14 := c13
        obtain ⟨y16, qy16, qj43⟩ := obind qj43
        obtain ⟨v20, h18, og17, rfl, S19⟩ := (W_fold_Alike k10 k25 n7 n13 n14 n15 n16 n21 n22 n23 n26 n9 m (by omega) h4 (GL.keep0 S7 hG) [65, 66] [97, 98] qy16).out
        have S21 : Sep h [] h18 [] := S7.call0 S19
        simp only [↓WE, WA, WL, aop, ofValue, ofCell, isConst, abin, acall1, abuiltin, aun, AV.cells, AV.one, Nat.reduceAdd, Int.reduceLT, Int.reduceLE, ↓WD, W0, evalOp, Nat.reduceEqDiff, Nat.reduceLT, ↓reduceIte, reduceCtorEq, hl, og3, og12, og17, d9, d14]
        refine GuardW_boo (fun c22 => ?_) (fun c22 => ?_)
        · rw [if_pos c22] at qj43
          have d23 := c22
          obtain ⟨y25, qy25, qj43⟩ := obind qj43
          obtain ⟨v29, h27, og26, rfl, S28⟩ := (W_fold_Alike k10 k25 n7 n13 n14 n15 n16 n21 n22 n23 n26 n9 m (by omega) h18 (GL.keep0 S21 hG) [97] [98] qy25).out
          have S30 : Sep h [] h27 [] := S21.call0 S28
          simp only [↓WE, WA, WL, aop, ofValue, ofCell, isConst, abin, acall1, abuiltin, aun, AV.cells, AV.one, Nat.reduceAdd, Int.reduceLT, Int.reduceLE, ↓WD, W0, evalOp, Nat.reduceEqDiff, Nat.reduceLT, ↓reduceIte, reduceCtorEq, hl, og3, og12, og17, og26, d9, d14, d23]
          refine GuardW_boo (fun c31 => ?_) (fun c31 => ?_)
          · rw [if_pos c31] at qj43
            have d32 := c31
            obtain ⟨y34, qy34, qj43⟩ := obind qj43
            obtain ⟨u38, h36, og35, _, rfl, S37⟩ := (W_fold_Table n12 m (by omega) h27  qy34).out
            have S41 : Sep h [] h36 [.row u38 29 3 (y34.map GA3_i64.cells)] := S30.call0 S37
            have ol42 := RO.len (P := Tryd.prog) sl_27 (S41.row_ro (i := 0) rfl)
            rw [List.length_map] at ol42
            simp only [↓WE, WA, WL, aop, ofValue, ofCell, isConst, abin, acall1, abuiltin, aun, AV.cells, AV.one, Nat.reduceAdd, Int.reduceLT, Int.reduceLE, ↓WD, W0, evalOp, Nat.reduceEqDiff, Nat.reduceLT, ↓reduceIte, reduceCtorEq, hl, og3, og12, og17, og26, og35, ol42, d9, d14, d23, d32]
            obtain rfl := Option.some.inj qj43
            exact ⟨(by simp only [List.length_set, hl]), (by simp only [W0, Nat.reduceEqDiff, Nat.reduceLT, ↓reduceIte, hl]), S41.pick [] (by decide) rfl⟩
          · rw [if_neg (nf c31)] at qj43
            have d33 := c31
            simp only [↓WE, WA, WL, aop, ofValue, ofCell, isConst, abin, acall1, abuiltin, aun, AV.cells, AV.one, Nat.reduceAdd, Int.reduceLT, Int.reduceLE, ↓WD, W0, evalOp, Nat.reduceEqDiff, Nat.reduceLT, ↓reduceIte, reduceCtorEq, hl, og3, og12, og17, og26, d9, d14, d23, d33]
            obtain rfl := Option.some.inj qj43
            exact ⟨(by simp only [List.length_set, hl]), (by simp only [W0, Nat.reduceEqDiff, Nat.reduceLT, ↓reduceIte, hl]), S30⟩
        · rw [if_neg (nf c22)] at qj43
          have d24 := c22
          simp only [↓WE, WA, WL, aop, ofValue, ofCell, isConst, abin, acall1, abuiltin, aun, AV.cells, AV.one, Nat.reduceAdd, Int.reduceLT, Int.reduceLE, ↓WD, W0, evalOp, Nat.reduceEqDiff, Nat.reduceLT, ↓reduceIte, reduceCtorEq, hl, og3, og12, og17, d9, d14, d24]
          obtain rfl := Option.some.inj qj43
          exact ⟨(by simp only [List.length_set, hl]), (by simp only [W0, Nat.reduceEqDiff, Nat.reduceLT, ↓reduceIte, hl]), S21⟩
      · rw [if_neg (nf c13)] at qj43
        have d15 := c13
        simp only [↓WE, WA, WL, aop, ofValue, ofCell, isConst, abin, acall1, abuiltin, aun, AV.cells, AV.one, Nat.reduceAdd, Int.reduceLT, Int.reduceLE, ↓WD, W0, evalOp, Nat.reduceEqDiff, Nat.reduceLT, ↓reduceIte, reduceCtorEq, hl, og3, og12, d9, d15]
        obtain rfl := Option.some.inj qj43
        exact ⟨(by simp only [List.length_set, hl]), (by simp only [W0, Nat.reduceEqDiff, Nat.reduceLT, ↓reduceIte, hl]), S7⟩
    · rw [if_neg (nf c8)] at qj43
      have d10 := c8
      simp only [↓WE, WA, WL, aop, ofValue, ofCell, isConst, abin, acall1, abuiltin, aun, AV.cells, AV.one, Nat.reduceAdd, Int.reduceLT, Int.reduceLE, ↓WD, W0, evalOp, Nat.reduceEqDiff, Nat.reduceLT, ↓reduceIte, reduceCtorEq, hl, og3, d10]
      obtain rfl := Option.some.inj qj43
      exact ⟨(by simp only [List.length_set, hl]), (by simp only [W0, Nat.reduceEqDiff, Nat.reduceLT, ↓reduceIte, hl]), S7⟩
  · rintro envj43 h45 ⟨hl, e0, S44⟩
    try simp only [↓WD, W0, evalOp, Nat.reduceEqDiff, Nat.reduceLT, ↓reduceIte, reduceCtorEq, hl, e0]
    refine KP_ret (vs := [.bool j43]) (by simp only [aresults, aresult, gs, List.length_set, Nat.reduceEqDiff, Nat.reduceLT, ↓reduceIte, hl, e0]) ?_
    obtain rfl := Option.some.inj hF
    exact ⟨rfl, S44⟩
set_option maxRecDepth 100000 in
set_option maxHeartbeats 4000000 in
theorem W_ref13_long {K : PureK} (n24 : K 24 = none) (m : Nat) (hm : NF + 1 ≤ m) (h : AH) (c : Int) {r : Int × Int} (hF : F_ref13_long c = some r) :
    AR (acall Tryd.prog (hooksOf K) (drawnOf Tryd.prog (tabOf K)) m 24 [.int .u8 c] h) (fun v h' => v = .tup [.int .i64 r.1, .int .i64 r.2]) := by
  obtain ⟨m, rfl⟩ : ∃ k, m = k + 1 := ⟨m - 1, by omega⟩
  refine AR_call (hooksOf_none n24) Tryd.func24 rfl _ _ fun env hl he => ?_
  have e0 := he 0
  simp only [List.getD_cons_zero, List.getD_cons_succ] at e0
  simp only [Tryd.f24] at hl ⊢
  simp only [List.length_cons, List.length_nil, Nat.reduceAdd, Nat.reduceSub] at hl
  clear he
  have S0 : Sep h [] h [] := Sep.nil h
  rw [F_ref13_long] at hF
  try simp only [↓WD, W0, evalOp, Nat.reduceEqDiff, Nat.reduceLT, ↓reduceIte, reduceCtorEq, hl, e0]
  rw [AW_region]
  refine AE_joinR (fun e h' => h = h' ∧ e.length = 35 ∧ e.getD 0 .undef = .int .u8 c) (by
    simp only [↓WE, WA, WL, aop, ofValue, ofCell, isConst, abin, acall1, abuiltin, aun, AV.cells, AV.one, Nat.reduceAdd, Int.reduceLT, Int.reduceLE, ↓WD, W0, evalOp, Nat.reduceEqDiff, Nat.reduceLT, ↓reduceIte, reduceCtorEq, hl, e0]
    exact ⟨rfl, (by simp only [List.length_set, hl]), (by simp only [W0, Nat.reduceEqDiff, Nat.reduceLT, ↓reduceIte, hl, e0])⟩) ?_
  rintro envg1 _ ⟨rfl, hl, e0⟩
  try simp only [↓WD, W0, evalOp, Nat.reduceEqDiff, Nat.reduceLT, ↓reduceIte, reduceCtorEq, hl, e0]
  rw [AW_region]
  refine AE_joinR (fun e h' => h = h' ∧ e.length = 35 ∧ e.getD 0 .undef = .int .u8 c ∧ e.getD 5 .undef = .bool (decide (c < 128))) (by
    simp only [↓WE, WA, WL, aop, ofValue, ofCell, isConst, abin, acall1, abuiltin, aun, AV.cells, AV.one, Nat.reduceAdd, Int.reduceLT, Int.reduceLE, ↓WD, W0, evalOp, Nat.reduceEqDiff, Nat.reduceLT, ↓reduceIte, reduceCtorEq, hl, e0]
    exact ⟨rfl, (by simp only [List.length_set, hl]), (by simp only [W0, Nat.reduceEqDiff, Nat.reduceLT, ↓reduceIte, hl, e0]), (by simp only [W0, Nat.reduceEqDiff, Nat.reduceLT, ↓reduceIte, hl, e0])⟩) ?_
  rintro envg2 _ ⟨rfl, hl, e0, e5⟩
  try simp only [↓WD, W0, evalOp, Nat.reduceEqDiff, Nat.reduceLT, ↓reduceIte, reduceCtorEq, hl, e0, e5]
  refine CondK_dec (fun c6 => ?_) (fun c6 => ?_)
  · rw [if_pos c6] at hF
    try simp only [↓WD, W0, evalOp, Nat.reduceEqDiff, Nat.reduceLT, ↓reduceIte, reduceCtorEq, hl, e0, e5]
    rw [AW_region]
    have oc7 := fun g : AH => aconv_int (P := Tryd.prog) (h := g) (n := c) (k' := .u8) Tryd.underlying5 Tryd.underlying3
    refine AE_joinR (fun e h' => h = h' ∧ e.length = 35 ∧ e.getD 2 .undef = .int .i64 1 ∧ e.getD 3 .undef = .int .i64 (IntKind.i64.wrap c)) (by
      simp only [↓WE, WA, WL, aop, ofValue, ofCell, isConst, abin, acall1, abuiltin, aun, AV.cells, AV.one, Nat.reduceAdd, Int.reduceLT, Int.reduceLE, ↓WD, W0, evalOp, Nat.reduceEqDiff, Nat.reduceLT, ↓reduceIte, reduceCtorEq, hl, e0, e5, oc7]
      exact ⟨rfl, (by simp only [List.length_set, hl]), (by simp only [W0, Nat.reduceEqDiff, Nat.reduceLT, ↓reduceIte, hl, e0, e5]), (by simp only [W0, Nat.reduceEqDiff, Nat.reduceLT, ↓reduceIte, hl, e0, e5])⟩) ?_
    rintro envg8 _ ⟨rfl, hl, e2, e3⟩
    try simp only [↓WD, W0, evalOp, Nat.reduceEqDiff, Nat.reduceLT, ↓reduceIte, reduceCtorEq, hl, e2, e3]
    refine KP_ret (vs := [.int .i64 1, .int .i64 (IntKind.i64.wrap c)]) (by simp only [aresults, aresult, gs, List.length_set, Nat.reduceEqDiff, Nat.reduceLT, ↓reduceIte, hl, e2, e3]) ?_
    obtain rfl := Option.some.inj hF
    exact rfl
  · rw [if_neg c6] at hF
    try simp only [↓WD, W0, evalOp, Nat.reduceEqDiff, Nat.reduceLT, ↓reduceIte, reduceCtorEq, hl, e0, e5]
    rw [AW_region]
    obtain ⟨j12, qj12, hF⟩ := obind hF
    refine AE_joinR (fun e h' => e.length = 35 ∧ e.getD 0 .undef = .int .u8 c ∧ e.getD 13 .undef = .bool j12 ∧ Sep h [] h' []) ?_ ?_
    · simp only [↓WE, WA, WL, aop, ofValue, ofCell, isConst, abin, acall1, abuiltin, aun, AV.cells, AV.one, Nat.reduceAdd, Int.reduceLT, Int.reduceLE, ↓WD, W0, evalOp, Nat.reduceEqDiff, Nat.reduceLT, ↓reduceIte, reduceCtorEq, hl, e0, e5]
      refine GuardW_dec (fun c9 => ?_) (fun c9 => ?_)
      · rw [if_pos c9] at qj12
        have d10 : (decide (c ≥ 192)) = true := decide_eq_true c9
        simp only [↓WE, WA, WL, aop, ofValue, ofCell, isConst, abin, acall1, abuiltin, aun, AV.cells, AV.one, Nat.reduceAdd, Int.reduceLT, Int.reduceLE, ↓WD, W0, evalOp, Nat.reduceEqDiff, Nat.reduceLT, ↓reduceIte, reduceCtorEq, hl, e0, e5, d10]
        obtain rfl := Option.some.inj qj12
        exact ⟨(by simp only [List.length_set, hl]), (by simp only [W0, Nat.reduceEqDiff, Nat.reduceLT, ↓reduceIte, hl, e0, e5]), (by simp only [W0, Nat.reduceEqDiff, Nat.reduceLT, ↓reduceIte, hl, e0, e5]), S0⟩
      · rw [if_neg c9] at qj12
        have d11 : (decide (c ≥ 192)) = false := decide_eq_false c9
        simp only [↓WE, WA, WL, aop, ofValue, ofCell, isConst, abin, acall1, abuiltin, aun, AV.cells, AV.one, Nat.reduceAdd, Int.reduceLT, Int.reduceLE, ↓WD, W0, evalOp, Nat.reduceEqDiff, Nat.reduceLT, ↓reduceIte, reduceCtorEq, hl, e0, e5, d11]
        obtain rfl := Option.some.inj qj12
        exact ⟨(by simp only [List.length_set, hl]), (by simp only [W0, Nat.reduceEqDiff, Nat.reduceLT, ↓reduceIte, hl, e0, e5]), (by simp only [W0, Nat.reduceEqDiff, Nat.reduceLT, ↓reduceIte, hl, e0, e5]), S0⟩
    · rintro envj12 h14 ⟨hl, e0, e13, S13⟩
      try simp only [↓WD, W0, evalOp, Nat.reduceEqDiff, Nat.reduceLT, ↓reduceIte, reduceCtorEq, hl, e0, e13]
      refine CondK_boo (fun c18 => ?_) (fun c18 => ?_)
      · rw [if_pos c18] at hF
        try simp only [↓WD, W0, evalOp, Nat.reduceEqDiff, Nat.reduceLT, ↓reduceIte, reduceCtorEq, hl, e0, e13]
        rw [AW_region]
        have oc19 := fun g : AH => aconv_int (P := Tryd.prog) (h := g) (n := c) (k' := .u8) Tryd.underlying5 Tryd.underlying3
        refine AE_joinR (fun e h' => h14 = h' ∧ e.length = 35 ∧ e.getD 2 .undef = .int .i64 2 ∧ e.getD 3 .undef = .int .i64 (IntKind.i64.wrap ((IntKind.i64.wrap c) - 192))) (by
          simp only [↓WE, WA, WL, aop, ofValue, ofCell, isConst, abin, acall1, abuiltin, aun, AV.cells, AV.one, Nat.reduceAdd, Int.reduceLT, Int.reduceLE, ↓WD, W0, evalOp, Nat.reduceEqDiff, Nat.reduceLT, ↓reduceIte, reduceCtorEq, hl, e0, e13, oc19]
          exact ⟨rfl, (by simp only [List.length_set, hl]), (by simp only [W0, Nat.reduceEqDiff, Nat.reduceLT, ↓reduceIte, hl, e0, e13]), (by simp only [W0, Nat.reduceEqDiff, Nat.reduceLT, ↓reduceIte, hl, e0, e13])⟩) ?_
        rintro envg20 _ ⟨rfl, hl, e2, e3⟩
        try simp only [↓WD, W0, evalOp, Nat.reduceEqDiff, Nat.reduceLT, ↓reduceIte, reduceCtorEq, hl, e2, e3]
        refine KP_ret (vs := [.int .i64 2, .int .i64 (IntKind.i64.wrap ((IntKind.i64.wrap c) - 192))]) (by simp only [aresults, aresult, gs, List.length_set, Nat.reduceEqDiff, Nat.reduceLT, ↓reduceIte, hl, e2, e3]) ?_
        obtain rfl := Option.some.inj hF
        exact rfl
      · rw [if_neg (nf c18)] at hF
        try simp only [↓WD, W0, evalOp, Nat.reduceEqDiff, Nat.reduceLT, ↓reduceIte, reduceCtorEq, hl, e0, e13]
        rw [AW_region]
        obtain ⟨j24, qj24, hF⟩ := obind hF
        refine AE_joinR (fun e h' => e.length = 35 ∧ e.getD 0 .undef = .int .u8 c ∧ e.getD 22 .undef = .bool j24 ∧ Sep h [] h' []) ?_ ?_
        · simp only [↓WE, WA, WL, aop, ofValue, ofCell, isConst, abin, acall1, abuiltin, aun, AV.cells, AV.one, Nat.reduceAdd, Int.reduceLT, Int.reduceLE, ↓WD, W0, evalOp, Nat.reduceEqDiff, Nat.reduceLT, ↓reduceIte, reduceCtorEq, hl, e0, e13]
          refine GuardW_dec (fun c21 => ?_) (fun c21 => ?_)
          · rw [if_pos c21] at qj24
            have d22 : (decide (c ≥ 224)) = true := decide_eq_true c21
            simp only [↓WE, WA, WL, aop, ofValue, ofCell, isConst, abin, acall1, abuiltin, aun, AV.cells, AV.one, Nat.reduceAdd, Int.reduceLT, Int.reduceLE, ↓WD, W0, evalOp, Nat.reduceEqDiff, Nat.reduceLT, ↓reduceIte, reduceCtorEq, hl, e0, e13, d22]
            obtain rfl := Option.some.inj qj24
            exact ⟨(by simp only [List.length_set, hl]), (by simp only [W0, Nat.reduceEqDiff, Nat.reduceLT, ↓reduceIte, hl, e0, e13]), (by simp only [W0, Nat.reduceEqDiff, Nat.reduceLT, ↓reduceIte, hl, e0, e13]), S13⟩
          · rw [if_neg c21] at qj24
            have d23 : (decide (c ≥ 224)) = false := decide_eq_false c21
            simp only [↓WE, WA, WL, aop, ofValue, ofCell, isConst, abin, acall1, abuiltin, aun, AV.cells, AV.one, Nat.reduceAdd, Int.reduceLT, Int.reduceLE, ↓WD, W0, evalOp, Nat.reduceEqDiff, Nat.reduceLT, ↓reduceIte, reduceCtorEq, hl, e0, e13, d23]
            obtain rfl := Option.some.inj qj24
            exact ⟨(by simp only [List.length_set, hl]), (by simp only [W0, Nat.reduceEqDiff, Nat.reduceLT, ↓reduceIte, hl, e0, e13]), (by simp only [W0, Nat.reduceEqDiff, Nat.reduceLT, ↓reduceIte, hl, e0, e13]), S13⟩
        · rintro envj24 h26 ⟨hl, e0, e22, S25⟩
          try simp only [↓WD, W0, evalOp, Nat.reduceEqDiff, Nat.reduceLT, ↓reduceIte, reduceCtorEq, hl, e0, e22]
          refine CondK_boo (fun c30 => ?_) (fun c30 => ?_)
          · rw [if_pos c30] at hF
            try simp only [↓WD, W0, evalOp, Nat.reduceEqDiff, Nat.reduceLT, ↓reduceIte, reduceCtorEq, hl, e0, e22]
            rw [AW_region]
            have oc31 := fun g : AH => aconv_int (P := Tryd.prog) (h := g) (n := c) (k' := .u8) Tryd.underlying5 Tryd.underlying3
            refine AE_joinR (fun e h' => h26 = h' ∧ e.length = 35 ∧ e.getD 2 .undef = .int .i64 3 ∧ e.getD 3 .undef = .int .i64 (IntKind.i64.wrap ((IntKind.i64.wrap c) - 224))) (by
              simp only [↓WE, WA, WL, aop, ofValue, ofCell, isConst, abin, acall1, abuiltin, aun, AV.cells, AV.one, Nat.reduceAdd, Int.reduceLT, Int.reduceLE, ↓WD, W0, evalOp, Nat.reduceEqDiff, Nat.reduceLT, ↓reduceIte, reduceCtorEq, hl, e0, e22, oc31]
              exact ⟨rfl, (by simp only [List.length_set, hl]), (by simp only [W0, Nat.reduceEqDiff, Nat.reduceLT, ↓reduceIte, hl, e0, e22]), (by simp only [W0, Nat.reduceEqDiff, Nat.reduceLT, ↓reduceIte, hl, e0, e22])⟩) ?_
            rintro envg32 _ ⟨rfl, hl, e2, e3⟩
            try simp only [↓WD, W0, evalOp, Nat.reduceEqDiff, Nat.reduceLT, ↓reduceIte, reduceCtorEq, hl, e2, e3]
            refine KP_ret (vs := [.int .i64 3, .int .i64 (IntKind.i64.wrap ((IntKind.i64.wrap c) - 224))]) (by simp only [aresults, aresult, gs, List.length_set, Nat.reduceEqDiff, Nat.reduceLT, ↓reduceIte, hl, e2, e3]) ?_
            obtain rfl := Option.some.inj hF
            exact rfl
          · rw [if_neg (nf c30)] at hF
            try simp only [↓WD, W0, evalOp, Nat.reduceEqDiff, Nat.reduceLT, ↓reduceIte, reduceCtorEq, hl, e0, e22]
            rw [AW_region]
            obtain ⟨j36, qj36, hF⟩ := obind hF
            refine AE_joinR (fun e h' => e.length = 35 ∧ e.getD 0 .undef = .int .u8 c ∧ e.getD 31 .undef = .bool j36 ∧ Sep h [] h' []) ?_ ?_
            · simp only [↓WE, WA, WL, aop, ofValue, ofCell, isConst, abin, acall1, abuiltin, aun, AV.cells, AV.one, Nat.reduceAdd, Int.reduceLT, Int.reduceLE, ↓WD, W0, evalOp, Nat.reduceEqDiff, Nat.reduceLT, ↓reduceIte, reduceCtorEq, hl, e0, e22]
              refine GuardW_dec (fun c33 => ?_) (fun c33 => ?_)
              · rw [if_pos c33] at qj36
                have d34 : (decide (c ≥ 240)) = true := decide_eq_true c33
                simp only [↓WE, WA, WL, aop, ofValue, ofCell, isConst, abin, acall1, abuiltin, aun, AV.cells, AV.one, Nat.reduceAdd, Int.reduceLT, Int.reduceLE, ↓WD, W0, evalOp, Nat.reduceEqDiff, Nat.reduceLT, ↓reduceIte, reduceCtorEq, hl, e0, e22, d34]
                obtain rfl := Option.some.inj qj36
                exact ⟨(by simp only [List.length_set, hl]), (by simp only [W0, Nat.reduceEqDiff, Nat.reduceLT, ↓reduceIte, hl, e0, e22]), (by simp only [W0, Nat.reduceEqDiff, Nat.reduceLT, ↓reduceIte, hl, e0, e22]), S25⟩
              · rw [if_neg c33] at qj36
                have d35 : (decide (c ≥ 240)) = false := decide_eq_false c33
                simp only [↓WE, WA, WL, aop, ofValue, ofCell, isConst, abin, acall1, abuiltin, aun, AV.cells, AV.one, Nat.reduceAdd, Int.reduceLT, Int.reduceLE, ↓WD, W0, evalOp, Nat.reduceEqDiff, Nat.reduceLT, ↓reduceIte, reduceCtorEq, hl, e0, e22, d35]
                obtain rfl := Option.some.inj qj36
                exact ⟨(by simp only [List.length_set, hl]), (by simp only [W0, Nat.reduceEqDiff, Nat.reduceLT, ↓reduceIte, hl, e0, e22]), (by simp only [W0, Nat.reduceEqDiff, Nat.reduceLT, ↓reduceIte, hl, e0, e22]), S25⟩
            · rintro envj36 h38 ⟨hl, e0, e31, S37⟩
              try simp only [↓WD, W0, evalOp, Nat.reduceEqDiff, Nat.reduceLT, ↓reduceIte, reduceCtorEq, hl, e0, e31]
              refine CondK_boo (fun c42 => ?_) (fun c42 => ?_)
              · rw [if_pos c42] at hF
                try simp only [↓WD, W0, evalOp, Nat.reduceEqDiff, Nat.reduceLT, ↓reduceIte, reduceCtorEq, hl, e0, e31]
                rw [AW_region]
                have oc43 := fun g : AH => aconv_int (P := Tryd.prog) (h := g) (n := c) (k' := .u8) Tryd.underlying5 Tryd.underlying3
                refine AE_joinR (fun e h' => h38 = h' ∧ e.length = 35 ∧ e.getD 2 .undef = .int .i64 4 ∧ e.getD 3 .undef = .int .i64 (IntKind.i64.wrap ((IntKind.i64.wrap c) - 240))) (by
                  simp only [↓WE, WA, WL, aop, ofValue, ofCell, isConst, abin, acall1, abuiltin, aun, AV.cells, AV.one, Nat.reduceAdd, Int.reduceLT, Int.reduceLE, ↓WD, W0, evalOp, Nat.reduceEqDiff, Nat.reduceLT, ↓reduceIte, reduceCtorEq, hl, e0, e31, oc43]
                  exact ⟨rfl, (by simp only [List.length_set, hl]), (by simp only [W0, Nat.reduceEqDiff, Nat.reduceLT, ↓reduceIte, hl, e0, e31]), (by simp only [W0, Nat.reduceEqDiff, Nat.reduceLT, ↓reduceIte, hl, e0, e31])⟩) ?_
                rintro envg44 _ ⟨rfl, hl, e2, e3⟩
                try simp only [↓WD, W0, evalOp, Nat.reduceEqDiff, Nat.reduceLT, ↓reduceIte, reduceCtorEq, hl, e2, e3]
                refine KP_ret (vs := [.int .i64 4, .int .i64 (IntKind.i64.wrap ((IntKind.i64.wrap c) - 240))]) (by simp only [aresults, aresult, gs, List.length_set, Nat.reduceEqDiff, Nat.reduceLT, ↓reduceIte, hl, e2, e3]) ?_
                obtain rfl := Option.some.inj hF
                exact rfl
              · rw [if_neg (nf c42)] at hF
                try simp only [↓WD, W0, evalOp, Nat.reduceEqDiff, Nat.reduceLT, ↓reduceIte, reduceCtorEq, hl, e0, e31]
                rw [AW_region]
                refine AE_joinR (fun e h' => h38 = h' ∧ e.length = 35 ∧ e.getD 2 .undef = .int .i64 0 ∧ e.getD 3 .undef = .int .i64 0) (by
                  simp only [↓WE, WA, WL, aop, ofValue, ofCell, isConst, abin, acall1, abuiltin, aun, AV.cells, AV.one, Nat.reduceAdd, Int.reduceLT, Int.reduceLE, ↓WD, W0, evalOp, Nat.reduceEqDiff, Nat.reduceLT, ↓reduceIte, reduceCtorEq, hl, e0, e31]
                  exact ⟨rfl, (by simp only [List.length_set, hl]), (by simp only [W0, Nat.reduceEqDiff, Nat.reduceLT, ↓reduceIte, hl, e0, e31]), (by simp only [W0, Nat.reduceEqDiff, Nat.reduceLT, ↓reduceIte, hl, e0, e31])⟩) ?_
                rintro envg45 _ ⟨rfl, hl, e2, e3⟩
                try simp only [↓WD, W0, evalOp, Nat.reduceEqDiff, Nat.reduceLT, ↓reduceIte, reduceCtorEq, hl, e2, e3]
                refine KP_ret (vs := [.int .i64 0, .int .i64 0]) (by simp only [aresults, aresult, gs, List.length_set, Nat.reduceEqDiff, Nat.reduceLT, ↓reduceIte, hl, e2, e3]) ?_
                obtain rfl := Option.some.inj hF
                exact rfl
set_option maxRecDepth 100000 in
set_option maxHeartbeats 4000000 in
theorem W_ref13_Next {K : PureK} (k24 : K 24 = some kf_24) (n17 : K 17 = none) (m : Nat) (hm : NF + 1 ≤ m) (h : AH) (s_ : List UInt8) (at_ : Int) {r : Int × Int} (hF : F_ref13_Next s_ at_ = some r) :
    AR (acall Tryd.prog (hooksOf K) (drawnOf Tryd.prog (tabOf K)) m 17 [.str s_, .int .i64 at_] h) (fun v h' => v = .tup [.int .i64 r.1, .int .i64 r.2]) := by
  obtain ⟨m, rfl⟩ : ∃ k, m = k + 1 := ⟨m - 1, by omega⟩
  refine AR_call (hooksOf_none n17) Tryd.func17 rfl _ _ fun env hl he => ?_
  have e0 := he 0
  have e1 := he 1
  simp only [List.getD_cons_zero, List.getD_cons_succ] at e0 e1
  simp only [Tryd.f17] at hl ⊢
  simp only [List.length_cons, List.length_nil, Nat.reduceAdd, Nat.reduceSub] at hl
  clear he
  have S0 : Sep h [] h [] := Sep.nil h
  rw [F_ref13_Next] at hF
  try simp only [↓WD, W0, evalOp, Nat.reduceEqDiff, Nat.reduceLT, ↓reduceIte, reduceCtorEq, hl, e0, e1]
  rw [AW_region]
  refine AE_joinR (fun e h' => h = h' ∧ e.length = 77 ∧ e.getD 0 .undef = .str s_ ∧ e.getD 1 .undef = .int .i64 at_) (by
    simp only [↓WE, WA, WL, aop, ofValue, ofCell, isConst, abin, acall1, abuiltin, aun, AV.cells, AV.one, Nat.reduceAdd, Int.reduceLT, Int.reduceLE, ↓WD, W0, evalOp, Nat.reduceEqDiff, Nat.reduceLT, ↓reduceIte, reduceCtorEq, hl, e0, e1]
    exact ⟨rfl, (by simp only [List.length_set, hl]), (by simp only [W0, Nat.reduceEqDiff, Nat.reduceLT, ↓reduceIte, hl, e0, e1]), (by simp only [W0, Nat.reduceEqDiff, Nat.reduceLT, ↓reduceIte, hl, e0, e1])⟩) ?_
  rintro envg1 _ ⟨rfl, hl, e0, e1⟩
  try simp only [↓WD, W0, evalOp, Nat.reduceEqDiff, Nat.reduceLT, ↓reduceIte, reduceCtorEq, hl, e0, e1]
  rw [AW_region]
  obtain ⟨c2, qc2, hF⟩ := obind hF
  have oc2 := idx_str (P := Tryd.prog) (k := .i64) Tryd.underlying9 qc2
  obtain ⟨y3, qy3, hF⟩ := obind hF
  have og4 := fun (D : Drawn) (n : Nat) (g : AH) => call_hook (P := Tryd.prog) (D := D) k24 n (args := [.int .u8 c2]) (v := .tup [.int .i64 y3.1, .int .i64 y3.2]) ((kf_24_eq c2).trans (by rw [qy3]; rfl)) g
  refine AE_joinR (fun e h' => h = h' ∧ e.length = 77 ∧ e.getD 0 .undef = .str s_ ∧ e.getD 1 .undef = .int .i64 at_ ∧ e.getD 6 .undef = .int .i64 y3.1 ∧ e.getD 7 .undef = .int .i64 y3.2) (by
    simp only [↓WE, WA, WL, aop, ofValue, ofCell, isConst, abin, acall1, abuiltin, aun, AV.cells, AV.one, Nat.reduceAdd, Int.reduceLT, Int.reduceLE, ↓WD, W0, evalOp, Nat.reduceEqDiff, Nat.reduceLT, ↓reduceIte, reduceCtorEq, hl, e0, e1, oc2, og4]
    exact ⟨rfl, (by simp only [List.length_set, hl]), (by simp only [W0, Nat.reduceEqDiff, Nat.reduceLT, ↓reduceIte, hl, e0, e1]), (by simp only [W0, Nat.reduceEqDiff, Nat.reduceLT, ↓reduceIte, hl, e0, e1]), (by simp only [W0, Nat.reduceEqDiff, Nat.reduceLT, ↓reduceIte, hl, e0, e1]), (by simp only [W0, Nat.reduceEqDiff, Nat.reduceLT, ↓reduceIte, hl, e0, e1])⟩) ?_
  rintro envg5 _ ⟨rfl, hl, e0, e1, e6, e7⟩
  try simp only [↓WD, W0, evalOp, Nat.reduceEqDiff, Nat.reduceLT, ↓reduceIte, reduceCtorEq, hl, e0, e1, e6, e7]
  rw [AW_region]
  obtain ⟨j10, qj10, hF⟩ := obind hF
  refine AE_joinR (fun e h' => e.length = 77 ∧ e.getD 0 .undef = .str s_ ∧ e.getD 1 .undef = .int .i64 at_ ∧ e.getD 6 .undef = .int .i64 y3.1 ∧ e.getD 7 .undef = .int .i64 y3.2 ∧ e.getD 26 .undef = .bool j10 ∧ Sep h [] h' []) ?_ ?_
  · simp only [↓WE, WA, WL, aop, ofValue, ofCell, isConst, abin, acall1, abuiltin, aun, AV.cells, AV.one, Nat.reduceAdd, Int.reduceLT, Int.reduceLE, ↓WD, W0, evalOp, Nat.reduceEqDiff, Nat.reduceLT, ↓reduceIte, reduceCtorEq, hl, e0, e1, e6, e7]
    refine GuardW_boo (fun c6 => ?_) (fun c6 => ?_)
    · rw [if_pos c6] at qj10
      have d7 := c6
      simp only [↓WE, WA, WL, aop, ofValue, ofCell, isConst, abin, acall1, abuiltin, aun, AV.cells, AV.one, Nat.reduceAdd, Int.reduceLT, Int.reduceLE, ↓WD, W0, evalOp, Nat.reduceEqDiff, Nat.reduceLT, ↓reduceIte, reduceCtorEq, hl, e0, e1, e6, e7, d7]
      obtain rfl := Option.some.inj qj10
      exact ⟨(by simp only [List.length_set, hl]), (by simp only [W0, Nat.reduceEqDiff, Nat.reduceLT, ↓reduceIte, hl, e0, e1, e6, e7]), (by simp only [W0, Nat.reduceEqDiff, Nat.reduceLT, ↓reduceIte, hl, e0, e1, e6, e7]), (by simp only [W0, Nat.reduceEqDiff, Nat.reduceLT, ↓reduceIte, hl, e0, e1, e6, e7]), (by simp only [W0, Nat.reduceEqDiff, Nat.reduceLT, ↓reduceIte, hl, e0, e1, e6, e7]), (by simp only [W0, Nat.reduceEqDiff, Nat.reduceLT, ↓reduceIte, hl, e0, e1, e6, e7]), S0⟩
    · rw [if_neg (nf c6)] at qj10
      have d8 := c6
      have ol9 := fun g : AH => alen_str (P := Tryd.prog) (h := g) (l := s_) Tryd.underlying9
      simp only [↓WE, WA, WL, aop, ofValue, ofCell, isConst, abin, acall1, abuiltin, aun, AV.cells, AV.one, Nat.reduceAdd, Int.reduceLT, Int.reduceLE, ↓WD, W0, evalOp, Nat.reduceEqDiff, Nat.reduceLT, ↓reduceIte, reduceCtorEq, hl, e0, e1, e6, e7, ol9, d8]
      obtain rfl := Option.some.inj qj10
      exact ⟨(by simp only [List.length_set, hl]), (by simp only [W0, Nat.reduceEqDiff, Nat.reduceLT, ↓reduceIte, hl, e0, e1, e6, e7]), (by simp only [W0, Nat.reduceEqDiff, Nat.reduceLT, ↓reduceIte, hl, e0, e1, e6, e7]), (by simp only [W0, Nat.reduceEqDiff, Nat.reduceLT, ↓reduceIte, hl, e0, e1, e6, e7]), (by simp only [W0, Nat.reduceEqDiff, Nat.reduceLT, ↓reduceIte, hl, e0, e1, e6, e7]), (by simp only [W0, Nat.reduceEqDiff, Nat.reduceLT, ↓reduceIte, hl, e0, e1, e6, e7]), S0⟩
  · rintro envj10 h12 ⟨hl, e0, e1, e6, e7, e26, S11⟩
    try simp only [↓WD, W0, evalOp, Nat.reduceEqDiff, Nat.reduceLT, ↓reduceIte, reduceCtorEq, hl, e0, e1, e6, e7, e26]
    refine CondK_boo (fun c15 => ?_) (fun c15 => ?_)
    · rw [if_pos c15] at hF
      try simp only [↓WD, W0, evalOp, Nat.reduceEqDiff, Nat.reduceLT, ↓reduceIte, reduceCtorEq, hl, e0, e1, e6, e7, e26]
      rw [AW_region]
      refine AE_joinR (fun e h' => h12 = h' ∧ e.length = 77 ∧ e.getD 4 .undef = .int .i64 0 ∧ e.getD 5 .undef = .int .i64 0) (by
        simp only [↓WE, WA, WL, aop, ofValue, ofCell, isConst, abin, acall1, abuiltin, aun, AV.cells, AV.one, Nat.reduceAdd, Int.reduceLT, Int.reduceLE, ↓WD, W0, evalOp, Nat.reduceEqDiff, Nat.reduceLT, ↓reduceIte, reduceCtorEq, hl, e0, e1, e6, e7, e26]
        exact ⟨rfl, (by simp only [List.length_set, hl]), (by simp only [W0, Nat.reduceEqDiff, Nat.reduceLT, ↓reduceIte, hl, e0, e1, e6, e7, e26]), (by simp only [W0, Nat.reduceEqDiff, Nat.reduceLT, ↓reduceIte, hl, e0, e1, e6, e7, e26])⟩) ?_
      rintro envg16 _ ⟨rfl, hl, e4, e5⟩
      try simp only [↓WD, W0, evalOp, Nat.reduceEqDiff, Nat.reduceLT, ↓reduceIte, reduceCtorEq, hl, e4, e5]
      refine KP_ret (vs := [.int .i64 0, .int .i64 0]) (by simp only [aresults, aresult, gs, List.length_set, Nat.reduceEqDiff, Nat.reduceLT, ↓reduceIte, hl, e4, e5]) ?_
      obtain rfl := Option.some.inj hF
      exact rfl
    · rw [if_neg (nf c15)] at hF
      try simp only [↓WD, W0, evalOp, Nat.reduceEqDiff, Nat.reduceLT, ↓reduceIte, reduceCtorEq, hl, e0, e1, e6, e7, e26]
      rw [AW_region]
      refine AE_joinR (fun e h' => h12 = h' ∧ e.length = 77 ∧ e.getD 0 .undef = .str s_ ∧ e.getD 1 .undef = .int .i64 at_ ∧ e.getD 6 .undef = .int .i64 y3.1 ∧ e.getD 7 .undef = .int .i64 y3.2 ∧ e.getD 8 .undef = .int .i64 1) (by
        simp only [↓WE, WA, WL, aop, ofValue, ofCell, isConst, abin, acall1, abuiltin, aun, AV.cells, AV.one, Nat.reduceAdd, Int.reduceLT, Int.reduceLE, ↓WD, W0, evalOp, Nat.reduceEqDiff, Nat.reduceLT, ↓reduceIte, reduceCtorEq, hl, e0, e1, e6, e7, e26]
        exact ⟨rfl, (by simp only [List.length_set, hl]), (by simp only [W0, Nat.reduceEqDiff, Nat.reduceLT, ↓reduceIte, hl, e0, e1, e6, e7, e26]), (by simp only [W0, Nat.reduceEqDiff, Nat.reduceLT, ↓reduceIte, hl, e0, e1, e6, e7, e26]), (by simp only [W0, Nat.reduceEqDiff, Nat.reduceLT, ↓reduceIte, hl, e0, e1, e6, e7, e26]), (by simp only [W0, Nat.reduceEqDiff, Nat.reduceLT, ↓reduceIte, hl, e0, e1, e6, e7, e26]), (by simp only [W0, Nat.reduceEqDiff, Nat.reduceLT, ↓reduceIte, hl, e0, e1, e6, e7, e26])⟩) ?_
      rintro envg17 _ ⟨rfl, hl, e0, e1, e6, e7, e8⟩
      try simp only [↓WD, W0, evalOp, Nat.reduceEqDiff, Nat.reduceLT, ↓reduceIte, reduceCtorEq, hl, e0, e1, e6, e7, e8]
      obtain ⟨r60, qr60, hF⟩ := obind hF
      refine AW_lift (L_ref13_Next_1 y3 s_ at_) (fun s e h' => e.length = 77 ∧ e.getD 0 .undef = .str s_ ∧ e.getD 1 .undef = .int .i64 at_ ∧ e.getD 6 .undef = .int .i64 y3.1 ∧ e.getD 7 .undef = .int .i64 s.1 ∧ e.getD 8 .undef = .int .i64 s.2 ∧ Sep h [] h' []) (fun r60 x e h' => (∃ (t61 : Int), r60 = (.inl t61) ∧ x = .exit 0 ∧ e.length = 77 ∧ e.getD 6 .undef = .int .i64 y3.1 ∧ e.getD 7 .undef = .int .i64 t61 ∧ Sep h [] h' []) ∨ (∃ (t64 : Unit), r60 = (.inr t64) ∧ x = .ret ∧ e.length = 77 ∧ e.getD 4 .undef = .int .i64 0 ∧ e.getD 5 .undef = .int .i64 0 ∧ Sep h [] h' [])) qr60 (by omega) ?_ ?_ ?_
      · rintro s envr60 h39 or60 ⟨hl, e0, e1, e6, e7, e8, S40⟩ wr60
        rw [L_ref13_Next_1] at wr60
        try simp only [↓WD, W0, evalOp, Nat.reduceEqDiff, Nat.reduceLT, ↓reduceIte, reduceCtorEq, hl, e0, e1, e6, e7, e8]
        rw [AW_region]
        refine AE_joinR (fun e h' => h39 = h' ∧ e.length = 77 ∧ e.getD 0 .undef = .str s_ ∧ e.getD 1 .undef = .int .i64 at_ ∧ e.getD 6 .undef = .int .i64 y3.1 ∧ e.getD 7 .undef = .int .i64 s.1 ∧ e.getD 8 .undef = .int .i64 s.2 ∧ e.getD 29 .undef = .bool (decide (s.2 < y3.1))) (by
          simp only [↓WE, WA, WL, aop, ofValue, ofCell, isConst, abin, acall1, abuiltin, aun, AV.cells, AV.one, Nat.reduceAdd, Int.reduceLT, Int.reduceLE, ↓WD, W0, evalOp, Nat.reduceEqDiff, Nat.reduceLT, ↓reduceIte, reduceCtorEq, hl, e0, e1, e6, e7, e8]
          exact ⟨rfl, (by simp only [List.length_set, hl]), (by simp only [W0, Nat.reduceEqDiff, Nat.reduceLT, ↓reduceIte, hl, e0, e1, e6, e7, e8]), (by simp only [W0, Nat.reduceEqDiff, Nat.reduceLT, ↓reduceIte, hl, e0, e1, e6, e7, e8]), (by simp only [W0, Nat.reduceEqDiff, Nat.reduceLT, ↓reduceIte, hl, e0, e1, e6, e7, e8]), (by simp only [W0, Nat.reduceEqDiff, Nat.reduceLT, ↓reduceIte, hl, e0, e1, e6, e7, e8]), (by simp only [W0, Nat.reduceEqDiff, Nat.reduceLT, ↓reduceIte, hl, e0, e1, e6, e7, e8]), (by simp only [W0, Nat.reduceEqDiff, Nat.reduceLT, ↓reduceIte, hl, e0, e1, e6, e7, e8])⟩) ?_
        rintro envg41 _ ⟨rfl, hl, e0, e1, e6, e7, e8, e29⟩
        try simp only [↓WD, W0, evalOp, Nat.reduceEqDiff, Nat.reduceLT, ↓reduceIte, reduceCtorEq, hl, e0, e1, e6, e7, e8, e29]
        refine CondK_dec (fun c43 => ?_) (fun c43 => ?_)
        · rw [if_pos c43] at wr60
          try simp only [↓WD, W0, evalOp, Nat.reduceEqDiff, Nat.reduceLT, ↓reduceIte, reduceCtorEq, hl, e0, e1, e6, e7, e8, e29]
          rw [AW_region]
          obtain ⟨j49, qj49, wr60⟩ := obind wr60
          refine AE_joinR (fun e h' => e.length = 77 ∧ e.getD 0 .undef = .str s_ ∧ e.getD 1 .undef = .int .i64 at_ ∧ e.getD 6 .undef = .int .i64 y3.1 ∧ e.getD 7 .undef = .int .i64 s.1 ∧ e.getD 8 .undef = .int .i64 s.2 ∧ e.getD 45 .undef = .bool j49 ∧ Sep h [] h' []) ?_ ?_
          · obtain ⟨c44, qc44, qj49⟩ := obind qj49
            have oc44 := idx_str (P := Tryd.prog) (k := .i64) Tryd.underlying9 qc44
            simp only [↓WE, WA, WL, aop, ofValue, ofCell, isConst, abin, acall1, abuiltin, aun, AV.cells, AV.one, Nat.reduceAdd, Int.reduceLT, Int.reduceLE, ↓WD, W0, evalOp, Nat.reduceEqDiff, Nat.reduceLT, ↓reduceIte, reduceCtorEq, hl, e0, e1, e6, e7, e8, e29, oc44]
            refine GuardW_dec (fun c45 => ?_) (fun c45 => ?_)
            · rw [if_pos c45] at qj49
              have d46 : (decide (c44 < 128)) = true := decide_eq_true c45
              simp only [↓WE, WA, WL, aop, ofValue, ofCell, isConst, abin, acall1, abuiltin, aun, AV.cells, AV.one, Nat.reduceAdd, Int.reduceLT, Int.reduceLE, ↓WD, W0, evalOp, Nat.reduceEqDiff, Nat.reduceLT, ↓reduceIte, reduceCtorEq, hl, e0, e1, e6, e7, e8, e29, oc44, d46]
              obtain rfl := Option.some.inj qj49
              exact ⟨(by simp only [List.length_set, hl]), (by simp only [W0, Nat.reduceEqDiff, Nat.reduceLT, ↓reduceIte, hl, e0, e1, e6, e7, e8, e29]), (by simp only [W0, Nat.reduceEqDiff, Nat.reduceLT, ↓reduceIte, hl, e0, e1, e6, e7, e8, e29]), (by simp only [W0, Nat.reduceEqDiff, Nat.reduceLT, ↓reduceIte, hl, e0, e1, e6, e7, e8, e29]), (by simp only [W0, Nat.reduceEqDiff, Nat.reduceLT, ↓reduceIte, hl, e0, e1, e6, e7, e8, e29]), (by simp only [W0, Nat.reduceEqDiff, Nat.reduceLT, ↓reduceIte, hl, e0, e1, e6, e7, e8, e29]), (by simp only [W0, Nat.reduceEqDiff, Nat.reduceLT, ↓reduceIte, hl, e0, e1, e6, e7, e8, e29]), S40⟩
            · rw [if_neg c45] at qj49
              have d47 : (decide (c44 < 128)) = false := decide_eq_false c45
              have oc48 := idx_str (P := Tryd.prog) (k := .i64) Tryd.underlying9 qc44
              simp only [↓WE, WA, WL, aop, ofValue, ofCell, isConst, abin, acall1, abuiltin, aun, AV.cells, AV.one, Nat.reduceAdd, Int.reduceLT, Int.reduceLE, ↓WD, W0, evalOp, Nat.reduceEqDiff, Nat.reduceLT, ↓reduceIte, reduceCtorEq, hl, e0, e1, e6, e7, e8, e29, oc44, oc48, d47]
              obtain rfl := Option.some.inj qj49
              exact ⟨(by simp only [List.length_set, hl]), (by simp only [W0, Nat.reduceEqDiff, Nat.reduceLT, ↓reduceIte, hl, e0, e1, e6, e7, e8, e29]), (by simp only [W0, Nat.reduceEqDiff, Nat.reduceLT, ↓reduceIte, hl, e0, e1, e6, e7, e8, e29]), (by simp only [W0, Nat.reduceEqDiff, Nat.reduceLT, ↓reduceIte, hl, e0, e1, e6, e7, e8, e29]), (by simp only [W0, Nat.reduceEqDiff, Nat.reduceLT, ↓reduceIte, hl, e0, e1, e6, e7, e8, e29]), (by simp only [W0, Nat.reduceEqDiff, Nat.reduceLT, ↓reduceIte, hl, e0, e1, e6, e7, e8, e29]), (by simp only [W0, Nat.reduceEqDiff, Nat.reduceLT, ↓reduceIte, hl, e0, e1, e6, e7, e8, e29]), S40⟩
          · rintro envj49 h51 ⟨hl, e0, e1, e6, e7, e8, e45, S50⟩
            try simp only [↓WD, W0, evalOp, Nat.reduceEqDiff, Nat.reduceLT, ↓reduceIte, reduceCtorEq, hl, e0, e1, e6, e7, e8, e45]
            refine CondK_boo (fun c54 => ?_) (fun c54 => ?_)
            · rw [if_pos c54] at wr60
              try simp only [↓WD, W0, evalOp, Nat.reduceEqDiff, Nat.reduceLT, ↓reduceIte, reduceCtorEq, hl, e0, e1, e6, e7, e8, e45]
              rw [AW_region]
              refine AE_joinR (fun e h' => h51 = h' ∧ e.length = 77 ∧ e.getD 4 .undef = .int .i64 0 ∧ e.getD 5 .undef = .int .i64 0) (by
                simp only [↓WE, WA, WL, aop, ofValue, ofCell, isConst, abin, acall1, abuiltin, aun, AV.cells, AV.one, Nat.reduceAdd, Int.reduceLT, Int.reduceLE, ↓WD, W0, evalOp, Nat.reduceEqDiff, Nat.reduceLT, ↓reduceIte, reduceCtorEq, hl, e0, e1, e6, e7, e8, e45]
                exact ⟨rfl, (by simp only [List.length_set, hl]), (by simp only [W0, Nat.reduceEqDiff, Nat.reduceLT, ↓reduceIte, hl, e0, e1, e6, e7, e8, e45]), (by simp only [W0, Nat.reduceEqDiff, Nat.reduceLT, ↓reduceIte, hl, e0, e1, e6, e7, e8, e45])⟩) ?_
              rintro envg55 _ ⟨rfl, hl, e4, e5⟩
              try simp only [↓WD, W0, evalOp, Nat.reduceEqDiff, Nat.reduceLT, ↓reduceIte, reduceCtorEq, hl, e4, e5]
              obtain rfl := Option.some.inj wr60
              rw [KP_nil, QL_ret]
              exact ⟨_, rfl, .inr (⟨_, rfl, rfl, (by simp only [List.length_set, hl]), (by simp only [W0, Nat.reduceEqDiff, Nat.reduceLT, ↓reduceIte, hl, e4, e5]), (by simp only [W0, Nat.reduceEqDiff, Nat.reduceLT, ↓reduceIte, hl, e4, e5]), S50⟩)⟩
            · rw [if_neg (nf c54)] at wr60
              try simp only [↓WD, W0, evalOp, Nat.reduceEqDiff, Nat.reduceLT, ↓reduceIte, reduceCtorEq, hl, e0, e1, e6, e7, e8, e45]
              rw [AW_region]
              obtain ⟨c56, qc56, wr60⟩ := obind wr60
              have oc56 := idx_str (P := Tryd.prog) (k := .i64) Tryd.underlying9 qc56
              have oc57 := fun g : AH => aconv_int (P := Tryd.prog) (h := g) (n := c56) (k' := .u8) Tryd.underlying5 Tryd.underlying3
              refine AE_joinR (fun e h' => h51 = h' ∧ e.length = 77 ∧ e.getD 0 .undef = .str s_ ∧ e.getD 1 .undef = .int .i64 at_ ∧ e.getD 6 .undef = .int .i64 y3.1 ∧ e.getD 7 .undef = .int .i64 (IntKind.i64.wrap ((IntKind.i64.wrap ((IntKind.i64.wrap (64 * s.1)) + (IntKind.i64.wrap c56))) - 128)) ∧ e.getD 8 .undef = .int .i64 s.2) (by
                simp only [↓WE, WA, WL, aop, ofValue, ofCell, isConst, abin, acall1, abuiltin, aun, AV.cells, AV.one, Nat.reduceAdd, Int.reduceLT, Int.reduceLE, ↓WD, W0, evalOp, Nat.reduceEqDiff, Nat.reduceLT, ↓reduceIte, reduceCtorEq, hl, e0, e1, e6, e7, e8, e45, oc56, oc57]
                exact ⟨rfl, (by simp only [List.length_set, hl]), (by simp only [W0, Nat.reduceEqDiff, Nat.reduceLT, ↓reduceIte, hl, e0, e1, e6, e7, e8, e45]), (by simp only [W0, Nat.reduceEqDiff, Nat.reduceLT, ↓reduceIte, hl, e0, e1, e6, e7, e8, e45]), (by simp only [W0, Nat.reduceEqDiff, Nat.reduceLT, ↓reduceIte, hl, e0, e1, e6, e7, e8, e45]), (by simp only [W0, Nat.reduceEqDiff, Nat.reduceLT, ↓reduceIte, hl, e0, e1, e6, e7, e8, e45]), (by simp only [W0, Nat.reduceEqDiff, Nat.reduceLT, ↓reduceIte, hl, e0, e1, e6, e7, e8, e45])⟩) ?_
              rintro envg58 _ ⟨rfl, hl, e0, e1, e6, e7, e8⟩
              try simp only [↓WD, W0, evalOp, Nat.reduceEqDiff, Nat.reduceLT, ↓reduceIte, reduceCtorEq, hl, e0, e1, e6, e7, e8]
              rw [AW_region]
              refine AE_joinR (fun e h' => h51 = h' ∧ e.length = 77 ∧ e.getD 0 .undef = .str s_ ∧ e.getD 1 .undef = .int .i64 at_ ∧ e.getD 6 .undef = .int .i64 y3.1 ∧ e.getD 7 .undef = .int .i64 (IntKind.i64.wrap ((IntKind.i64.wrap ((IntKind.i64.wrap (64 * s.1)) + (IntKind.i64.wrap c56))) - 128)) ∧ e.getD 8 .undef = .int .i64 (IntKind.i64.wrap (s.2 + 1))) (by
                simp only [↓WE, WA, WL, aop, ofValue, ofCell, isConst, abin, acall1, abuiltin, aun, AV.cells, AV.one, Nat.reduceAdd, Int.reduceLT, Int.reduceLE, ↓WD, W0, evalOp, Nat.reduceEqDiff, Nat.reduceLT, ↓reduceIte, reduceCtorEq, hl, e0, e1, e6, e7, e8]
                exact ⟨rfl, (by simp only [List.length_set, hl]), (by simp only [W0, Nat.reduceEqDiff, Nat.reduceLT, ↓reduceIte, hl, e0, e1, e6, e7, e8]), (by simp only [W0, Nat.reduceEqDiff, Nat.reduceLT, ↓reduceIte, hl, e0, e1, e6, e7, e8]), (by simp only [W0, Nat.reduceEqDiff, Nat.reduceLT, ↓reduceIte, hl, e0, e1, e6, e7, e8]), (by simp only [W0, Nat.reduceEqDiff, Nat.reduceLT, ↓reduceIte, hl, e0, e1, e6, e7, e8]), (by simp only [W0, Nat.reduceEqDiff, Nat.reduceLT, ↓reduceIte, hl, e0, e1, e6, e7, e8])⟩) ?_
              rintro envg59 _ ⟨rfl, hl, e0, e1, e6, e7, e8⟩
              try simp only [↓WD, W0, evalOp, Nat.reduceEqDiff, Nat.reduceLT, ↓reduceIte, reduceCtorEq, hl, e0, e1, e6, e7, e8]
              obtain rfl := Option.some.inj wr60
              rw [KP_nil, QL_normal]
              exact ⟨_, rfl, (by simp only [List.length_set, hl]), (by simp only [W0, Nat.reduceEqDiff, Nat.reduceLT, ↓reduceIte, hl, e0, e1, e6, e7, e8]), (by simp only [W0, Nat.reduceEqDiff, Nat.reduceLT, ↓reduceIte, hl, e0, e1, e6, e7, e8]), (by simp only [W0, Nat.reduceEqDiff, Nat.reduceLT, ↓reduceIte, hl, e0, e1, e6, e7, e8]), (by simp only [W0, Nat.reduceEqDiff, Nat.reduceLT, ↓reduceIte, hl, e0, e1, e6, e7, e8]), (by simp only [W0, Nat.reduceEqDiff, Nat.reduceLT, ↓reduceIte, hl, e0, e1, e6, e7, e8]), S50⟩
        · rw [if_neg c43] at wr60
          try simp only [↓WD, W0, evalOp, Nat.reduceEqDiff, Nat.reduceLT, ↓reduceIte, reduceCtorEq, hl, e0, e1, e6, e7, e8, e29]
          obtain rfl := Option.some.inj wr60
          rw [KP_nil, QL_exit]
          exact ⟨_, rfl, .inl ⟨_, rfl, rfl, (by simp only [List.length_set, hl]), (by simp only [W0, Nat.reduceEqDiff, Nat.reduceLT, ↓reduceIte, hl, e0, e1, e6, e7, e8, e29]), (by simp only [W0, Nat.reduceEqDiff, Nat.reduceLT, ↓reduceIte, hl, e0, e1, e6, e7, e8, e29]), S40⟩⟩
      · exact ⟨(by simp only [List.length_set, hl]), (by simp only [W0, Nat.reduceEqDiff, Nat.reduceLT, ↓reduceIte, hl, e0, e1, e6, e7, e8]), (by simp only [W0, Nat.reduceEqDiff, Nat.reduceLT, ↓reduceIte, hl, e0, e1, e6, e7, e8]), (by simp only [W0, Nat.reduceEqDiff, Nat.reduceLT, ↓reduceIte, hl, e0, e1, e6, e7, e8]), (by simp only [W0, Nat.reduceEqDiff, Nat.reduceLT, ↓reduceIte, hl, e0, e1, e6, e7, e8]), (by simp only [W0, Nat.reduceEqDiff, Nat.reduceLT, ↓reduceIte, hl, e0, e1, e6, e7, e8]), S11⟩
      · intro x envr60 h62 hk
        rcases hk with ⟨t61, rfl, rfl, hl, e6, e7, S63⟩ | ⟨t64, rfl, rfl, hl, e4, e5, S66⟩
        · skip
          rw [sumK_inl] at hF
          try simp only [↓WD, W0, evalOp, Nat.reduceEqDiff, Nat.reduceLT, ↓reduceIte, reduceCtorEq, hl, e6, e7]
          rw [AW_region]
          obtain ⟨u67, h68, ob69, S70⟩ := Sep.build (P := Tryd.prog) sl_54 S63 [.int .i64 0, .int .i64 0, .int .i64 128, .int .i64 2048, .int .i64 65536] (([0, 0, 128, 2048, 65536] : List Int).map (cellI .i64)) rfl (by simp [cellI]) (by simp)
          have ob69 : abuildSlice Tryd.prog 54 5 [(0, .int .i64 0), (1, .int .i64 0), (2, .int .i64 128), (3, .int .i64 2048), (4, .int .i64 65536)] h62 = some (u67, h68) := ob69
          have S72 : Sep h [] h68 [.row u67 3 1 (([0, 0, 128, 2048, 65536] : List Int).map (cellI .i64))] := S70
          obtain ⟨x73, qx73, hF⟩ := obind hF
          obtain ⟨i74, off75, oi76, hp77⟩ := RO.addr (P := Tryd.prog) sl_54 (S72.row_ro (i := 0) rfl) qx73
          have ol78 := RO.ld (P := Tryd.prog) (S72.row_ro (i := 0) rfl) hp77 qx73 (t := 3) (o := 0) (v := .int .i64 x73) (by omega) (by simp only [apart, ag_3, sz_3]; rfl)
          simp only [Nat.add_zero] at ol78
          refine AE_joinR (fun e h' => h68 = h' ∧ e.length = 77 ∧ e.getD 6 .undef = .int .i64 y3.1 ∧ e.getD 7 .undef = .int .i64 t61 ∧ e.getD 9 .undef = .int .i64 x73) (by
            simp only [↓WE, WA, WL, aop, ofValue, ofCell, isConst, abin, acall1, abuiltin, aun, AV.cells, AV.one, Nat.reduceAdd, Int.reduceLT, Int.reduceLE, ↓WD, W0, evalOp, Nat.reduceEqDiff, Nat.reduceLT, ↓reduceIte, reduceCtorEq, hl, e6, e7, ob69, oi76, ol78]
            exact ⟨rfl, (by simp only [List.length_set, hl]), (by simp only [W0, Nat.reduceEqDiff, Nat.reduceLT, ↓reduceIte, hl, e6, e7]), (by simp only [W0, Nat.reduceEqDiff, Nat.reduceLT, ↓reduceIte, hl, e6, e7]), (by simp only [W0, Nat.reduceEqDiff, Nat.reduceLT, ↓reduceIte, hl, e6, e7])⟩) ?_
          rintro envg79 _ ⟨rfl, hl, e6, e7, e9⟩
          try simp only [↓WD, W0, evalOp, Nat.reduceEqDiff, Nat.reduceLT, ↓reduceIte, reduceCtorEq, hl, e6, e7, e9]
          rw [AW_region]
          obtain ⟨j89, qj89, hF⟩ := obind hF
          refine AE_joinR (fun e h' => e.length = 77 ∧ e.getD 6 .undef = .int .i64 y3.1 ∧ e.getD 7 .undef = .int .i64 t61 ∧ e.getD 74 .undef = .bool j89 ∧ Sep h [] h' []) ?_ ?_
          · simp only [↓WE, WA, WL, aop, ofValue, ofCell, isConst, abin, acall1, abuiltin, aun, AV.cells, AV.one, Nat.reduceAdd, Int.reduceLT, Int.reduceLE, ↓WD, W0, evalOp, Nat.reduceEqDiff, Nat.reduceLT, ↓reduceIte, reduceCtorEq, hl, e6, e7, e9]
            refine GuardW_dec (fun c80 => ?_) (fun c80 => ?_)
            · rw [if_pos c80] at qj89
              have d81 : (decide (t61 < x73)) = true := decide_eq_true c80
              simp only [↓WE, WA, WL, aop, ofValue, ofCell, isConst, abin, acall1, abuiltin, aun, AV.cells, AV.one, Nat.reduceAdd, Int.reduceLT, Int.reduceLE, ↓WD, W0, evalOp, Nat.reduceEqDiff, Nat.reduceLT, ↓reduceIte, reduceCtorEq, hl, e6, e7, e9, d81]
              obtain rfl := Option.some.inj qj89
              exact ⟨(by simp only [List.length_set, hl]), (by simp only [W0, Nat.reduceEqDiff, Nat.reduceLT, ↓reduceIte, hl, e6, e7, e9]), (by simp only [W0, Nat.reduceEqDiff, Nat.reduceLT, ↓reduceIte, hl, e6, e7, e9]), (by simp only [W0, Nat.reduceEqDiff, Nat.reduceLT, ↓reduceIte, hl, e6, e7, e9]), S72.pick [] (by decide) rfl⟩
            · rw [if_neg c80] at qj89
              have d82 : (decide (t61 < x73)) = false := decide_eq_false c80
              simp only [↓WE, WA, WL, aop, ofValue, ofCell, isConst, abin, acall1, abuiltin, aun, AV.cells, AV.one, Nat.reduceAdd, Int.reduceLT, Int.reduceLE, ↓WD, W0, evalOp, Nat.reduceEqDiff, Nat.reduceLT, ↓reduceIte, reduceCtorEq, hl, e6, e7, e9, d82]
              refine GuardW_dec (fun c83 => ?_) (fun c83 => ?_)
              · rw [if_pos c83] at qj89
                have d84 : (decide (t61 > 1114111)) = true := decide_eq_true c83
                simp only [↓WE, WA, WL, aop, ofValue, ofCell, isConst, abin, acall1, abuiltin, aun, AV.cells, AV.one, Nat.reduceAdd, Int.reduceLT, Int.reduceLE, ↓WD, W0, evalOp, Nat.reduceEqDiff, Nat.reduceLT, ↓reduceIte, reduceCtorEq, hl, e6, e7, e9, d82, d84]
                obtain rfl := Option.some.inj qj89
                exact ⟨(by simp only [List.length_set, hl]), (by simp only [W0, Nat.reduceEqDiff, Nat.reduceLT, ↓reduceIte, hl, e6, e7, e9]), (by simp only [W0, Nat.reduceEqDiff, Nat.reduceLT, ↓reduceIte, hl, e6, e7, e9]), (by simp only [W0, Nat.reduceEqDiff, Nat.reduceLT, ↓reduceIte, hl, e6, e7, e9]), S72.pick [] (by decide) rfl⟩
              · rw [if_neg c83] at qj89
                have d85 : (decide (t61 > 1114111)) = false := decide_eq_false c83
                simp only [↓WE, WA, WL, aop, ofValue, ofCell, isConst, abin, acall1, abuiltin, aun, AV.cells, AV.one, Nat.reduceAdd, Int.reduceLT, Int.reduceLE, ↓WD, W0, evalOp, Nat.reduceEqDiff, Nat.reduceLT, ↓reduceIte, reduceCtorEq, hl, e6, e7, e9, d82, d85]
                refine GuardW_dec (fun c86 => ?_) (fun c86 => ?_)
                · rw [if_pos c86] at qj89
                  have d87 : (decide (t61 ≥ 55296)) = true := decide_eq_true c86
                  simp only [↓WE, WA, WL, aop, ofValue, ofCell, isConst, abin, acall1, abuiltin, aun, AV.cells, AV.one, Nat.reduceAdd, Int.reduceLT, Int.reduceLE, ↓WD, W0, evalOp, Nat.reduceEqDiff, Nat.reduceLT, ↓reduceIte, reduceCtorEq, hl, e6, e7, e9, d82, d85, d87]
                  obtain rfl := Option.some.inj qj89
                  exact ⟨(by simp only [List.length_set, hl]), (by simp only [W0, Nat.reduceEqDiff, Nat.reduceLT, ↓reduceIte, hl, e6, e7, e9]), (by simp only [W0, Nat.reduceEqDiff, Nat.reduceLT, ↓reduceIte, hl, e6, e7, e9]), (by simp only [W0, Nat.reduceEqDiff, Nat.reduceLT, ↓reduceIte, hl, e6, e7, e9]), S72.pick [] (by decide) rfl⟩
                · rw [if_neg c86] at qj89
                  have d88 : (decide (t61 ≥ 55296)) = false := decide_eq_false c86
                  simp only [↓WE, WA, WL, aop, ofValue, ofCell, isConst, abin, acall1, abuiltin, aun, AV.cells, AV.one, Nat.reduceAdd, Int.reduceLT, Int.reduceLE, ↓WD, W0, evalOp, Nat.reduceEqDiff, Nat.reduceLT, ↓reduceIte, reduceCtorEq, hl, e6, e7, e9, d82, d85, d88]
                  obtain rfl := Option.some.inj qj89
                  exact ⟨(by simp only [List.length_set, hl]), (by simp only [W0, Nat.reduceEqDiff, Nat.reduceLT, ↓reduceIte, hl, e6, e7, e9]), (by simp only [W0, Nat.reduceEqDiff, Nat.reduceLT, ↓reduceIte, hl, e6, e7, e9]), (by simp only [W0, Nat.reduceEqDiff, Nat.reduceLT, ↓reduceIte, hl, e6, e7, e9]), S72.pick [] (by decide) rfl⟩
          · rintro envj89 h91 ⟨hl, e6, e7, e74, S90⟩
            try simp only [↓WD, W0, evalOp, Nat.reduceEqDiff, Nat.reduceLT, ↓reduceIte, reduceCtorEq, hl, e6, e7, e74]
            refine CondK_boo (fun c94 => ?_) (fun c94 => ?_)
            · rw [if_pos c94] at hF
              try simp only [↓WD, W0, evalOp, Nat.reduceEqDiff, Nat.reduceLT, ↓reduceIte, reduceCtorEq, hl, e6, e7, e74]
              rw [AW_region]
              refine AE_joinR (fun e h' => h91 = h' ∧ e.length = 77 ∧ e.getD 4 .undef = .int .i64 0 ∧ e.getD 5 .undef = .int .i64 0) (by
                simp only [↓WE, WA, WL, aop, ofValue, ofCell, isConst, abin, acall1, abuiltin, aun, AV.cells, AV.one, Nat.reduceAdd, Int.reduceLT, Int.reduceLE, ↓WD, W0, evalOp, Nat.reduceEqDiff, Nat.reduceLT, ↓reduceIte, reduceCtorEq, hl, e6, e7, e74]
                exact ⟨rfl, (by simp only [List.length_set, hl]), (by simp only [W0, Nat.reduceEqDiff, Nat.reduceLT, ↓reduceIte, hl, e6, e7, e74]), (by simp only [W0, Nat.reduceEqDiff, Nat.reduceLT, ↓reduceIte, hl, e6, e7, e74])⟩) ?_
              rintro envg95 _ ⟨rfl, hl, e4, e5⟩
              try simp only [↓WD, W0, evalOp, Nat.reduceEqDiff, Nat.reduceLT, ↓reduceIte, reduceCtorEq, hl, e4, e5]
              refine KP_ret (vs := [.int .i64 0, .int .i64 0]) (by simp only [aresults, aresult, gs, List.length_set, Nat.reduceEqDiff, Nat.reduceLT, ↓reduceIte, hl, e4, e5]) ?_
              obtain rfl := Option.some.inj hF
              exact rfl
            · rw [if_neg (nf c94)] at hF
              try simp only [↓WD, W0, evalOp, Nat.reduceEqDiff, Nat.reduceLT, ↓reduceIte, reduceCtorEq, hl, e6, e7, e74]
              rw [AW_region]
              refine AE_joinR (fun e h' => h91 = h' ∧ e.length = 77 ∧ e.getD 4 .undef = .int .i64 t61 ∧ e.getD 5 .undef = .int .i64 y3.1) (by
                simp only [↓WE, WA, WL, aop, ofValue, ofCell, isConst, abin, acall1, abuiltin, aun, AV.cells, AV.one, Nat.reduceAdd, Int.reduceLT, Int.reduceLE, ↓WD, W0, evalOp, Nat.reduceEqDiff, Nat.reduceLT, ↓reduceIte, reduceCtorEq, hl, e6, e7, e74]
                exact ⟨rfl, (by simp only [List.length_set, hl]), (by simp only [W0, Nat.reduceEqDiff, Nat.reduceLT, ↓reduceIte, hl, e6, e7, e74]), (by simp only [W0, Nat.reduceEqDiff, Nat.reduceLT, ↓reduceIte, hl, e6, e7, e74])⟩) ?_
              rintro envg96 _ ⟨rfl, hl, e4, e5⟩
              try simp only [↓WD, W0, evalOp, Nat.reduceEqDiff, Nat.reduceLT, ↓reduceIte, reduceCtorEq, hl, e4, e5]
              refine KP_ret (vs := [.int .i64 t61, .int .i64 y3.1]) (by simp only [aresults, aresult, gs, List.length_set, Nat.reduceEqDiff, Nat.reduceLT, ↓reduceIte, hl, e4, e5]) ?_
              obtain rfl := Option.some.inj hF
              exact rfl
        · skip
          rw [sumK_inr] at hF
          try simp only [↓WD, W0, evalOp, Nat.reduceEqDiff, Nat.reduceLT, ↓reduceIte, reduceCtorEq, hl, e4, e5]
          refine KP_ret (vs := [.int .i64 0, .int .i64 0]) (by simp only [aresults, aresult, gs, List.length_set, Nat.reduceEqDiff, Nat.reduceLT, ↓reduceIte, hl, e4, e5]) ?_
          obtain rfl := Option.some.inj hF
          exact rfl
set_option maxRecDepth 100000 in
set_option maxHeartbeats 4000000 in
theorem W_ref14_Small {K : PureK} (n11 : K 11 = none) (m : Nat) (hm : NF + 1 ≤ m) (h : AH) (c : Int) {r : Int} (hF : F_ref14_Small c = some r) :
    AR (acall Tryd.prog (hooksOf K) (drawnOf Tryd.prog (tabOf K)) m 11 [.int .i64 c] h) (fun v h' => v = .int .i64 r) := by
  obtain ⟨m, rfl⟩ : ∃ k, m = k + 1 := ⟨m - 1, by omega⟩
  refine AR_call (hooksOf_none n11) Tryd.func11 rfl _ _ fun env hl he => ?_
  have e0 := he 0
  simp only [List.getD_cons_zero, List.getD_cons_succ] at e0
  simp only [Tryd.f11] at hl ⊢
  simp only [List.length_cons, List.length_nil, Nat.reduceAdd, Nat.reduceSub] at hl
  clear he
  have S0 : Sep h [] h [] := Sep.nil h
  rw [F_ref14_Small] at hF
  try simp only [↓WD, W0, evalOp, Nat.reduceEqDiff, Nat.reduceLT, ↓reduceIte, reduceCtorEq, hl, e0]
  rw [AW_region]
  refine AE_joinR (fun e h' => h = h' ∧ e.length = 52 ∧ e.getD 0 .undef = .int .i64 c) (by
    simp only [↓WE, WA, WL, aop, ofValue, ofCell, isConst, abin, acall1, abuiltin, aun, AV.cells, AV.one, Nat.reduceAdd, Int.reduceLT, Int.reduceLE, ↓WD, W0, evalOp, Nat.reduceEqDiff, Nat.reduceLT, ↓reduceIte, reduceCtorEq, hl, e0]
    exact ⟨rfl, (by simp only [List.length_set, hl]), (by simp only [W0, Nat.reduceEqDiff, Nat.reduceLT, ↓reduceIte, hl, e0])⟩) ?_
  rintro envg1 _ ⟨rfl, hl, e0⟩
  try simp only [↓WD, W0, evalOp, Nat.reduceEqDiff, Nat.reduceLT, ↓reduceIte, reduceCtorEq, hl, e0]
  rw [AW_region]
  obtain ⟨j134, qj134, hF⟩ := obind hF
  refine AE_joinR (fun e h' => e.length = 52 ∧ e.getD 0 .undef = .int .i64 c ∧ e.getD 40 .undef = .bool j134 ∧ Sep h [] h' []) ?_ ?_
  · simp only [↓WE, WA, WL, aop, ofValue, ofCell, isConst, abin, acall1, abuiltin, aun, AV.cells, AV.one, Nat.reduceAdd, Int.reduceLT, Int.reduceLE, ↓WD, W0, evalOp, Nat.reduceEqDiff, Nat.reduceLT, ↓reduceIte, reduceCtorEq, hl, e0]
    refine GuardW_dec (fun c2 => ?_) (fun c2 => ?_)
    · rw [if_pos c2] at qj134
      have d3 : (decide (c ≥ 65)) = true := decide_eq_true c2
      simp only [↓WE, WA, WL, aop, ofValue, ofCell, isConst, abin, acall1, abuiltin, aun, AV.cells, AV.one, Nat.reduceAdd, Int.reduceLT, Int.reduceLE, ↓WD, W0, evalOp, Nat.reduceEqDiff, Nat.reduceLT, ↓reduceIte, reduceCtorEq, hl, e0, d3]
      refine GuardW_dec (fun c5 => ?_) (fun c5 => ?_)
      · rw [if_pos c5] at qj134
        have d6 : (decide (c ≤ 90)) = true := decide_eq_true c5
        simp only [↓WE, WA, WL, aop, ofValue, ofCell, isConst, abin, acall1, abuiltin, aun, AV.cells, AV.one, Nat.reduceAdd, Int.reduceLT, Int.reduceLE, ↓WD, W0, evalOp, Nat.reduceEqDiff, Nat.reduceLT, ↓reduceIte, reduceCtorEq, hl, e0, d3, d6]
        obtain rfl := Option.some.inj qj134
        exact ⟨(by simp only [List.length_set, hl]), (by simp only [W0, Nat.reduceEqDiff, Nat.reduceLT, ↓reduceIte, hl, e0]), (by simp only [W0, Nat.reduceEqDiff, Nat.reduceLT, ↓reduceIte, hl, e0]), S0⟩
      · rw [if_neg c5] at qj134
        have d7 : (decide (c ≤ 90)) = false := decide_eq_false c5
        simp only [↓WE, WA, WL, aop, ofValue, ofCell, isConst, abin, acall1, abuiltin, aun, AV.cells, AV.one, Nat.reduceAdd, Int.reduceLT, Int.reduceLE, ↓WD, W0, evalOp, Nat.reduceEqDiff, Nat.reduceLT, ↓reduceIte, reduceCtorEq, hl, e0, d3, d7]
        refine GuardW_dec (fun c8 => ?_) (fun c8 => ?_)
        · rw [if_pos c8] at qj134
          have d9 : (decide (c ≥ 192)) = true := decide_eq_true c8
          simp only [↓WE, WA, WL, aop, ofValue, ofCell, isConst, abin, acall1, abuiltin, aun, AV.cells, AV.one, Nat.reduceAdd, Int.reduceLT, Int.reduceLE, ↓WD, W0, evalOp, Nat.reduceEqDiff, Nat.reduceLT, ↓reduceIte, reduceCtorEq, hl, e0, d3, d7, d9]
          refine GuardW_dec (fun c11 => ?_) (fun c11 => ?_)
          · rw [if_pos c11] at qj134
            have d12 : (decide (c ≤ 222)) = true := decide_eq_true c11
            simp only [↓WE, WA, WL, aop, ofValue, ofCell, isConst, abin, acall1, abuiltin, aun, AV.cells, AV.one, Nat.reduceAdd, Int.reduceLT, Int.reduceLE, ↓WD, W0, evalOp, Nat.reduceEqDiff, Nat.reduceLT, ↓reduceIte, reduceCtorEq, hl, e0, d3, d7, d9, d12]
            refine GuardW_boo (fun c14 => ?_) (fun c14 => ?_)
            · rw [if_pos c14] at qj134
              have d15 := c14
              simp only [↓WE, WA, WL, aop, ofValue, ofCell, isConst, abin, acall1, abuiltin, aun, AV.cells, AV.one, Nat.reduceAdd, Int.reduceLT, Int.reduceLE, ↓WD, W0, evalOp, Nat.reduceEqDiff, Nat.reduceLT, ↓reduceIte, reduceCtorEq, hl, e0, d3, d7, d9, d12, d15]
              obtain rfl := Option.some.inj qj134
              exact ⟨(by simp only [List.length_set, hl]), (by simp only [W0, Nat.reduceEqDiff, Nat.reduceLT, ↓reduceIte, hl, e0]), (by simp only [W0, Nat.reduceEqDiff, Nat.reduceLT, ↓reduceIte, hl, e0]), S0⟩
            · rw [if_neg (nf c14)] at qj134
              have d16 := c14
              simp only [↓WE, WA, WL, aop, ofValue, ofCell, isConst, abin, acall1, abuiltin, aun, AV.cells, AV.one, Nat.reduceAdd, Int.reduceLT, Int.reduceLE, ↓WD, W0, evalOp, Nat.reduceEqDiff, Nat.reduceLT, ↓reduceIte, reduceCtorEq, hl, e0, d3, d7, d9, d12, d16]
              refine GuardW_dec (fun c17 => ?_) (fun c17 => ?_)
              · rw [if_pos c17] at qj134
                have d18 : (decide (c ≥ 913)) = true := decide_eq_true c17
                simp only [↓WE, WA, WL, aop, ofValue, ofCell, isConst, abin, acall1, abuiltin, aun, AV.cells, AV.one, Nat.reduceAdd, Int.reduceLT, Int.reduceLE, ↓WD, W0, evalOp, Nat.reduceEqDiff, Nat.reduceLT, ↓reduceIte, reduceCtorEq, hl, e0, d3, d7, d9, d12, d16, d18]
                refine GuardW_dec (fun c20 => ?_) (fun c20 => ?_)
                · rw [if_pos c20] at qj134
                  have d21 : (decide (c ≤ 937)) = true := decide_eq_true c20
                  simp only [↓WE, WA, WL, aop, ofValue, ofCell, isConst, abin, acall1, abuiltin, aun, AV.cells, AV.one, Nat.reduceAdd, Int.reduceLT, Int.reduceLE, ↓WD, W0, evalOp, Nat.reduceEqDiff, Nat.reduceLT, ↓reduceIte, reduceCtorEq, hl, e0, d3, d7, d9, d12, d16, d18, d21]
                  refine GuardW_boo (fun c23 => ?_) (fun c23 => ?_)
                  · rw [if_pos c23] at qj134
                    have d24 := c23
                    simp only [↓WE, WA, WL, aop, ofValue, ofCell, isConst, abin, acall1, abuiltin, aun, AV.cells, AV.one, Nat.reduceAdd, Int.reduceLT, Int.reduceLE, ↓WD, W0, evalOp, Nat.reduceEqDiff, Nat.reduceLT, ↓reduceIte, reduceCtorEq, hl, e0, d3, d7, d9, d12, d16, d18, d21, d24]
                    obtain rfl := Option.some.inj qj134
                    exact ⟨(by simp only [List.length_set, hl]), (by simp only [W0, Nat.reduceEqDiff, Nat.reduceLT, ↓reduceIte, hl, e0]), (by simp only [W0, Nat.reduceEqDiff, Nat.reduceLT, ↓reduceIte, hl, e0]), S0⟩
                  · rw [if_neg (nf c23)] at qj134
                    have d25 := c23
                    simp only [↓WE, WA, WL, aop, ofValue, ofCell, isConst, abin, acall1, abuiltin, aun, AV.cells, AV.one, Nat.reduceAdd, Int.reduceLT, Int.reduceLE, ↓WD, W0, evalOp, Nat.reduceEqDiff, Nat.reduceLT, ↓reduceIte, reduceCtorEq, hl, e0, d3, d7, d9, d12, d16, d18, d21, d25]
                    refine GuardW_dec (fun c26 => ?_) (fun c26 => ?_)
                    · rw [if_pos c26] at qj134
                      have d27 : (decide (c ≥ 1040)) = true := decide_eq_true c26
                      simp only [↓WE, WA, WL, aop, ofValue, ofCell, isConst, abin, acall1, abuiltin, aun, AV.cells, AV.one, Nat.reduceAdd, Int.reduceLT, Int.reduceLE, ↓WD, W0, evalOp, Nat.reduceEqDiff, Nat.reduceLT, ↓reduceIte, reduceCtorEq, hl, e0, d3, d7, d9, d12, d16, d18, d21, d25, d27]
                      obtain rfl := Option.some.inj qj134
                      exact ⟨(by simp only [List.length_set, hl]), (by simp only [W0, Nat.reduceEqDiff, Nat.reduceLT, ↓reduceIte, hl, e0]), (by simp only [W0, Nat.reduceEqDiff, Nat.reduceLT, ↓reduceIte, hl, e0]), S0⟩
                    · rw [if_neg c26] at qj134
                      have d28 : (decide (c ≥ 1040)) = false := decide_eq_false c26
                      simp only [↓WE, WA, WL, aop, ofValue, ofCell, isConst, abin, acall1, abuiltin, aun, AV.cells, AV.one, Nat.reduceAdd, Int.reduceLT, Int.reduceLE, ↓WD, W0, evalOp, Nat.reduceEqDiff, Nat.reduceLT, ↓reduceIte, reduceCtorEq, hl, e0, d3, d7, d9, d12, d16, d18, d21, d25, d28]
                      obtain rfl := Option.some.inj qj134
                      exact ⟨(by simp only [List.length_set, hl]), (by simp only [W0, Nat.reduceEqDiff, Nat.reduceLT, ↓reduceIte, hl, e0]), (by simp only [W0, Nat.reduceEqDiff, Nat.reduceLT, ↓reduceIte, hl, e0]), S0⟩
                · rw [if_neg c20] at qj134
                  have d22 : (decide (c ≤ 937)) = false := decide_eq_false c20
                  simp only [↓WE, WA, WL, aop, ofValue, ofCell, isConst, abin, acall1, abuiltin, aun, AV.cells, AV.one, Nat.reduceAdd, Int.reduceLT, Int.reduceLE, ↓WD, W0, evalOp, Nat.reduceEqDiff, Nat.reduceLT, ↓reduceIte, reduceCtorEq, hl, e0, d3, d7, d9, d12, d16, d18, d22]
                  refine GuardW_dec (fun c29 => ?_) (fun c29 => ?_)
                  · rw [if_pos c29] at qj134
                    have d30 : (decide (c ≥ 1040)) = true := decide_eq_true c29
                    simp only [↓WE, WA, WL, aop, ofValue, ofCell, isConst, abin, acall1, abuiltin, aun, AV.cells, AV.one, Nat.reduceAdd, Int.reduceLT, Int.reduceLE, ↓WD, W0, evalOp, Nat.reduceEqDiff, Nat.reduceLT, ↓reduceIte, reduceCtorEq, hl, e0, d3, d7, d9, d12, d16, d18, d22, d30]
                    obtain rfl := Option.some.inj qj134
                    exact ⟨(by simp only [List.length_set, hl]), (by simp only [W0, Nat.reduceEqDiff, Nat.reduceLT, ↓reduceIte, hl, e0]), (by simp only [W0, Nat.reduceEqDiff, Nat.reduceLT, ↓reduceIte, hl, e0]), S0⟩
                  · rw [if_neg c29] at qj134
                    have d31 : (decide (c ≥ 1040)) = false := decide_eq_false c29
                    simp only [↓WE, WA, WL, aop, ofValue, ofCell, isConst, abin, acall1, abuiltin, aun, AV.cells, AV.one, Nat.reduceAdd, Int.reduceLT, Int.reduceLE, ↓WD, W0, evalOp, Nat.reduceEqDiff, Nat.reduceLT, ↓reduceIte, reduceCtorEq, hl, e0, d3, d7, d9, d12, d16, d18, d22, d31]
                    obtain rfl := Option.some.inj qj134
                    exact ⟨(by simp only [List.length_set, hl]), (by simp only [W0, Nat.reduceEqDiff, Nat.reduceLT, ↓reduceIte, hl, e0]), (by simp only [W0, Nat.reduceEqDiff, Nat.reduceLT, ↓reduceIte, hl, e0]), S0⟩
              · rw [if_neg c17] at qj134
                have d19 : (decide (c ≥ 913)) = false := decide_eq_false c17
                simp only [↓WE, WA, WL, aop, ofValue, ofCell, isConst, abin, acall1, abuiltin, aun, AV.cells, AV.one, Nat.reduceAdd, Int.reduceLT, Int.reduceLE, ↓WD, W0, evalOp, Nat.reduceEqDiff, Nat.reduceLT, ↓reduceIte, reduceCtorEq, hl, e0, d3, d7, d9, d12, d16, d19]
                refine GuardW_dec (fun c32 => ?_) (fun c32 => ?_)
                · rw [if_pos c32] at qj134
                  have d33 : (decide (c ≥ 1040)) = true := decide_eq_true c32
                  simp only [↓WE, WA, WL, aop, ofValue, ofCell, isConst, abin, acall1, abuiltin, aun, AV.cells, AV.one, Nat.reduceAdd, Int.reduceLT, Int.reduceLE, ↓WD, W0, evalOp, Nat.reduceEqDiff, Nat.reduceLT, ↓reduceIte, reduceCtorEq, hl, e0, d3, d7, d9, d12, d16, d19, d33]
                  obtain rfl := Option.some.inj qj134
                  exact ⟨(by simp only [List.length_set, hl]), (by simp only [W0, Nat.reduceEqDiff, Nat.reduceLT, ↓reduceIte, hl, e0]), (by simp only [W0, Nat.reduceEqDiff, Nat.reduceLT, ↓reduceIte, hl, e0]), S0⟩
                · rw [if_neg c32] at qj134
                  have d34 : (decide (c ≥ 1040)) = false := decide_eq_false c32
                  simp only [↓WE, WA, WL, aop, ofValue, ofCell, isConst, abin, acall1, abuiltin, aun, AV.cells, AV.one, Nat.reduceAdd, Int.reduceLT, Int.reduceLE, ↓WD, W0, evalOp, Nat.reduceEqDiff, Nat.reduceLT, ↓reduceIte, reduceCtorEq, hl, e0, d3, d7, d9, d12, d16, d19, d34]
                  obtain rfl := Option.some.inj qj134
                  exact ⟨(by simp only [List.length_set, hl]), (by simp only [W0, Nat.reduceEqDiff, Nat.reduceLT, ↓reduceIte, hl, e0]), (by simp only [W0, Nat.reduceEqDiff, Nat.reduceLT, ↓reduceIte, hl, e0]), S0⟩
          · rw [if_neg c11] at qj134
            have d13 : (decide (c ≤ 222)) = false := decide_eq_false c11
            simp only [↓WE, WA, WL, aop, ofValue, ofCell, isConst, abin, acall1, abuiltin, aun, AV.cells, AV.one, Nat.reduceAdd, Int.reduceLT, Int.reduceLE, ↓WD, W0, evalOp, Nat.reduceEqDiff, Nat.reduceLT, ↓reduceIte, reduceCtorEq, hl, e0, d3, d7, d9, d13]
            refine GuardW_dec (fun c35 => ?_) (fun c35 => ?_)
            · rw [if_pos c35] at qj134
              have d36 : (decide (c ≥ 913)) = true := decide_eq_true c35
              simp only [↓WE, WA, WL, aop, ofValue, ofCell, isConst, abin, acall1, abuiltin, aun, AV.cells, AV.one, Nat.reduceAdd, Int.reduceLT, Int.reduceLE, ↓WD, W0, evalOp, Nat.reduceEqDiff, Nat.reduceLT, ↓reduceIte, reduceCtorEq, hl, e0, d3, d7, d9, d13, d36]
              refine GuardW_dec (fun c38 => ?_) (fun c38 => ?_)
              · rw [if_pos c38] at qj134
                have d39 : (decide (c ≤ 937)) = true := decide_eq_true c38
                simp only [↓WE, WA, WL, aop, ofValue, ofCell, isConst, abin, acall1, abuiltin, aun, AV.cells, AV.one, Nat.reduceAdd, Int.reduceLT, Int.reduceLE, ↓WD, W0, evalOp, Nat.reduceEqDiff, Nat.reduceLT, ↓reduceIte, reduceCtorEq, hl, e0, d3, d7, d9, d13, d36, d39]
                refine GuardW_boo (fun c41 => ?_) (fun c41 => ?_)
                · rw [if_pos c41] at qj134
                  have d42 := c41
                  simp only [↓WE, WA, WL, aop, ofValue, ofCell, isConst, abin, acall1, abuiltin, aun, AV.cells, AV.one, Nat.reduceAdd, Int.reduceLT, Int.reduceLE, ↓WD, W0, evalOp, Nat.reduceEqDiff, Nat.reduceLT, ↓reduceIte, reduceCtorEq, hl, e0, d3, d7, d9, d13, d36, d39, d42]
                  obtain rfl := Option.some.inj qj134
                  exact ⟨(by simp only [List.length_set, hl]), (by simp only [W0, Nat.reduceEqDiff, Nat.reduceLT, ↓reduceIte, hl, e0]), (by simp only [W0, Nat.reduceEqDiff, Nat.reduceLT, ↓reduceIte, hl, e0]), S0⟩
                · rw [if_neg (nf c41)] at qj134
                  have d43 := c41
                  simp only [↓WE, WA, WL, aop, ofValue, ofCell, isConst, abin, acall1, abuiltin, aun, AV.cells, AV.one, Nat.reduceAdd, Int.reduceLT, Int.reduceLE, ↓WD, W0, evalOp, Nat.reduceEqDiff, Nat.reduceLT, ↓reduceIte, reduceCtorEq, hl, e0, d3, d7, d9, d13, d36, d39, d43]
                  refine GuardW_dec (fun c44 => ?_) (fun c44 => ?_)
                  · rw [if_pos c44] at qj134
                    have d45 : (decide (c ≥ 1040)) = true := decide_eq_true c44
                    simp only [↓WE, WA, WL, aop, ofValue, ofCell, isConst, abin, acall1, abuiltin, aun, AV.cells, AV.one, Nat.reduceAdd, Int.reduceLT, Int.reduceLE, ↓WD, W0, evalOp, Nat.reduceEqDiff, Nat.reduceLT, ↓reduceIte, reduceCtorEq, hl, e0, d3, d7, d9, d13, d36, d39, d43, d45]
                    obtain rfl := Option.some.inj qj134
                    exact ⟨(by simp only [List.length_set, hl]), (by simp only [W0, Nat.reduceEqDiff, Nat.reduceLT, ↓reduceIte, hl, e0]), (by simp only [W0, Nat.reduceEqDiff, Nat.reduceLT, ↓reduceIte, hl, e0]), S0⟩
                  · rw [if_neg c44] at qj134
                    have d46 : (decide (c ≥ 1040)) = false := decide_eq_false c44
                    simp only [↓WE, WA, WL, aop, ofValue, ofCell, isConst, abin, acall1, abuiltin, aun, AV.cells, AV.one, Nat.reduceAdd, Int.reduceLT, Int.reduceLE, ↓WD, W0, evalOp, Nat.reduceEqDiff, Nat.reduceLT, ↓reduceIte, reduceCtorEq, hl, e0, d3, d7, d9, d13, d36, d39, d43, d46]
                    obtain rfl := Option.some.inj qj134
                    exact ⟨(by simp only [List.length_set, hl]), (by simp only [W0, Nat.reduceEqDiff, Nat.reduceLT, ↓reduceIte, hl, e0]), (by simp only [W0, Nat.reduceEqDiff, Nat.reduceLT, ↓reduceIte, hl, e0]), S0⟩
              · rw [if_neg c38] at qj134
                have d40 : (decide (c ≤ 937)) = false := decide_eq_false c38
                simp only [↓WE, WA, WL, aop, ofValue, ofCell, isConst, abin, acall1, abuiltin, aun, AV.cells, AV.one, Nat.reduceAdd, Int.reduceLT, Int.reduceLE, ↓WD, W0, evalOp, Nat.reduceEqDiff, Nat.reduceLT, ↓reduceIte, reduceCtorEq, hl, e0, d3, d7, d9, d13, d36, d40]
                refine GuardW_dec (fun c47 => ?_) (fun c47 => ?_)
                · rw [if_pos c47] at qj134
                  have d48 : (decide (c ≥ 1040)) = true := decide_eq_true c47
                  simp only [↓WE, WA, WL, aop, ofValue, ofCell, isConst, abin, acall1, abuiltin, aun, AV.cells, AV.one, Nat.reduceAdd, Int.reduceLT, Int.reduceLE, ↓WD, W0, evalOp, Nat.reduceEqDiff, Nat.reduceLT, ↓reduceIte, reduceCtorEq, hl, e0, d3, d7, d9, d13, d36, d40, d48]
                  obtain rfl := Option.some.inj qj134
                  exact ⟨(by simp only [List.length_set, hl]), (by simp only [W0, Nat.reduceEqDiff, Nat.reduceLT, ↓reduceIte, hl, e0]), (by simp only [W0, Nat.reduceEqDiff, Nat.reduceLT, ↓reduceIte, hl, e0]), S0⟩
                · rw [if_neg c47] at qj134
                  have d49 : (decide (c ≥ 1040)) = false := decide_eq_false c47
                  simp only [↓WE, WA, WL, aop, ofValue, ofCell, isConst, abin, acall1, abuiltin, aun, AV.cells, AV.one, Nat.reduceAdd, Int.reduceLT, Int.reduceLE, ↓WD, W0, evalOp, Nat.reduceEqDiff, Nat.reduceLT, ↓reduceIte, reduceCtorEq, hl, e0, d3, d7, d9, d13, d36, d40, d49]
                  obtain rfl := Option.some.inj qj134
                  exact ⟨(by simp only [List.length_set, hl]), (by simp only [W0, Nat.reduceEqDiff, Nat.reduceLT, ↓reduceIte, hl, e0]), (by simp only [W0, Nat.reduceEqDiff, Nat.reduceLT, ↓reduceIte, hl, e0]), S0⟩
            · rw [if_neg c35] at qj134
              have d37 : (decide (c ≥ 913)) = false := decide_eq_false c35
              simp only [↓WE, WA, WL, aop, ofValue, ofCell, isConst, abin, acall1, abuiltin, aun, AV.cells, AV.one, Nat.reduceAdd, Int.reduceLT, Int.reduceLE, ↓WD, W0, evalOp, Nat.reduceEqDiff, Nat.reduceLT, ↓reduceIte, reduceCtorEq, hl, e0, d3, d7, d9, d13, d37]
              refine GuardW_dec (fun c50 => ?_) (fun c50 => ?_)
              · rw [if_pos c50] at qj134
                have d51 : (decide (c ≥ 1040)) = true := decide_eq_true c50
                simp only [↓WE, WA, WL, aop, ofValue, ofCell, isConst, abin, acall1, abuiltin, aun, AV.cells, AV.one, Nat.reduceAdd, Int.reduceLT, Int.reduceLE, ↓WD, W0, evalOp, Nat.reduceEqDiff, Nat.reduceLT, ↓reduceIte, reduceCtorEq, hl, e0, d3, d7, d9, d13, d37, d51]
                obtain rfl := Option.some.inj qj134
                exact ⟨(by simp only [List.length_set, hl]), (by simp only [W0, Nat.reduceEqDiff, Nat.reduceLT, ↓reduceIte, hl, e0]), (by simp only [W0, Nat.reduceEqDiff, Nat.reduceLT, ↓reduceIte, hl, e0]), S0⟩
              · rw [if_neg c50] at qj134
                have d52 : (decide (c ≥ 1040)) = false := decide_eq_false c50
                simp only [↓WE, WA, WL, aop, ofValue, ofCell, isConst, abin, acall1, abuiltin, aun, AV.cells, AV.one, Nat.reduceAdd, Int.reduceLT, Int.reduceLE, ↓WD, W0, evalOp, Nat.reduceEqDiff, Nat.reduceLT, ↓reduceIte, reduceCtorEq, hl, e0, d3, d7, d9, d13, d37, d52]
                obtain rfl := Option.some.inj qj134
                exact ⟨(by simp only [List.length_set, hl]), (by simp only [W0, Nat.reduceEqDiff, Nat.reduceLT, ↓reduceIte, hl, e0]), (by simp only [W0, Nat.reduceEqDiff, Nat.reduceLT, ↓reduceIte, hl, e0]), S0⟩
        · rw [if_neg c8] at qj134
          have d10 : (decide (c ≥ 192)) = false := decide_eq_false c8
          simp only [↓WE, WA, WL, aop, ofValue, ofCell, isConst, abin, acall1, abuiltin, aun, AV.cells, AV.one, Nat.reduceAdd, Int.reduceLT, Int.reduceLE, ↓WD, W0, evalOp, Nat.reduceEqDiff, Nat.reduceLT, ↓reduceIte, reduceCtorEq, hl, e0, d3, d7, d10]
          refine GuardW_dec (fun c53 => ?_) (fun c53 => ?_)
          · rw [if_pos c53] at qj134
            have d54 : (decide (c ≥ 913)) = true := decide_eq_true c53
            simp only [↓WE, WA, WL, aop, ofValue, ofCell, isConst, abin, acall1, abuiltin, aun, AV.cells, AV.one, Nat.reduceAdd, Int.reduceLT, Int.reduceLE, ↓WD, W0, evalOp, Nat.reduceEqDiff, Nat.reduceLT, ↓reduceIte, reduceCtorEq, hl, e0, d3, d7, d10, d54]
            refine GuardW_dec (fun c56 => ?_) (fun c56 => ?_)
            · rw [if_pos c56] at qj134
              have d57 : (decide (c ≤ 937)) = true := decide_eq_true c56
              simp only [↓WE, WA, WL, aop, ofValue, ofCell, isConst, abin, acall1, abuiltin, aun, AV.cells, AV.one, Nat.reduceAdd, Int.reduceLT, Int.reduceLE, ↓WD, W0, evalOp, Nat.reduceEqDiff, Nat.reduceLT, ↓reduceIte, reduceCtorEq, hl, e0, d3, d7, d10, d54, d57]
              refine GuardW_boo (fun c59 => ?_) (fun c59 => ?_)
              · rw [if_pos c59] at qj134
                have d60 := c59
                simp only [↓WE, WA, WL, aop, ofValue, ofCell, isConst, abin, acall1, abuiltin, aun, AV.cells, AV.one, Nat.reduceAdd, Int.reduceLT, Int.reduceLE, ↓WD, W0, evalOp, Nat.reduceEqDiff, Nat.reduceLT, ↓reduceIte, reduceCtorEq, hl, e0, d3, d7, d10, d54, d57, d60]
                obtain rfl := Option.some.inj qj134
                exact ⟨(by simp only [List.length_set, hl]), (by simp only [W0, Nat.reduceEqDiff, Nat.reduceLT, ↓reduceIte, hl, e0]), (by simp only [W0, Nat.reduceEqDiff, Nat.reduceLT, ↓reduceIte, hl, e0]), S0⟩
              · rw [if_neg (nf c59)] at qj134
                have d61 := c59
                simp only [↓WE, WA, WL, aop, ofValue, ofCell, isConst, abin, acall1, abuiltin, aun, AV.cells, AV.one, Nat.reduceAdd, Int.reduceLT, Int.reduceLE, ↓WD, W0, evalOp, Nat.reduceEqDiff, Nat.reduceLT, ↓reduceIte, reduceCtorEq, hl, e0, d3, d7, d10, d54, d57, d61]
                refine GuardW_dec (fun c62 => ?_) (fun c62 => ?_)
                · rw [if_pos c62] at qj134
                  have d63 : (decide (c ≥ 1040)) = true := decide_eq_true c62
                  simp only [↓WE, WA, WL, aop, ofValue, ofCell, isConst, abin, acall1, abuiltin, aun, AV.cells, AV.one, Nat.reduceAdd, Int.reduceLT, Int.reduceLE, ↓WD, W0, evalOp, Nat.reduceEqDiff, Nat.reduceLT, ↓reduceIte, reduceCtorEq, hl, e0, d3, d7, d10, d54, d57, d61, d63]
                  obtain rfl := Option.some.inj qj134
                  exact ⟨(by simp only [List.length_set, hl]), (by simp only [W0, Nat.reduceEqDiff, Nat.reduceLT, ↓reduceIte, hl, e0]), (by simp only [W0, Nat.reduceEqDiff, Nat.reduceLT, ↓reduceIte, hl, e0]), S0⟩
                · rw [if_neg c62] at qj134
                  have d64 : (decide (c ≥ 1040)) = false := decide_eq_false c62
                  simp only [↓WE, WA, WL, aop, ofValue, ofCell, isConst, abin, acall1, abuiltin, aun, AV.cells, AV.one, Nat.reduceAdd, Int.reduceLT, Int.reduceLE, ↓WD, W0, evalOp, Nat.reduceEqDiff, Nat.reduceLT, ↓reduceIte, reduceCtorEq, hl, e0, d3, d7, d10, d54, d57, d61, d64]
                  obtain rfl := Option.some.inj qj134
                  exact ⟨(by simp only [List.length_set, hl]), (by simp only [W0, Nat.reduceEqDiff, Nat.reduceLT, ↓reduceIte, hl, e0]), (by simp only [W0, Nat.reduceEqDiff, Nat.reduceLT, ↓reduceIte, hl, e0]), S0⟩
            · rw [if_neg c56] at qj134
              have d58 : (decide (c ≤ 937)) = false := decide_eq_false c56
              simp only [↓WE, WA, WL, aop, ofValue, ofCell, isConst, abin, acall1, abuiltin, aun, AV.cells, AV.one, Nat.reduceAdd, Int.reduceLT, Int.reduceLE, ↓WD, W0, evalOp, Nat.reduceEqDiff, Nat.reduceLT, ↓reduceIte, reduceCtorEq, hl, e0, d3, d7, d10, d54, d58]
              refine GuardW_dec (fun c65 => ?_) (fun c65 => ?_)
              · rw [if_pos c65] at qj134
                have d66 : (decide (c ≥ 1040)) = true := decide_eq_true c65
                simp only [↓WE, WA, WL, aop, ofValue, ofCell, isConst, abin, acall1, abuiltin, aun, AV.cells, AV.one, Nat.reduceAdd, Int.reduceLT, Int.reduceLE, ↓WD, W0, evalOp, Nat.reduceEqDiff, Nat.reduceLT, ↓reduceIte, reduceCtorEq, hl, e0, d3, d7, d10, d54, d58, d66]
                obtain rfl := Option.some.inj qj134
                exact ⟨(by simp only [List.length_set, hl]), (by simp only [W0, Nat.reduceEqDiff, Nat.reduceLT, ↓reduceIte, hl, e0]), (by simp only [W0, Nat.reduceEqDiff, Nat.reduceLT, ↓reduceIte, hl, e0]), S0⟩
              · rw [if_neg c65] at qj134
                have d67 : (decide (c ≥ 1040)) = false := decide_eq_false c65
                simp only [↓WE, WA, WL, aop, ofValue, ofCell, isConst, abin, acall1, abuiltin, aun, AV.cells, AV.one, Nat.reduceAdd, Int.reduceLT, Int.reduceLE, ↓WD, W0, evalOp, Nat.reduceEqDiff, Nat.reduceLT, ↓reduceIte, reduceCtorEq, hl, e0, d3, d7, d10, d54, d58, d67]
                obtain rfl := Option.some.inj qj134
                exact ⟨(by simp only [List.length_set, hl]), (by simp only [W0, Nat.reduceEqDiff, Nat.reduceLT, ↓reduceIte, hl, e0]), (by simp only [W0, Nat.reduceEqDiff, Nat.reduceLT, ↓reduceIte, hl, e0]), S0⟩
          · rw [if_neg c53] at qj134
            have d55 : (decide (c ≥ 913)) = false := decide_eq_false c53
            simp only [↓WE, WA, WL, aop, ofValue, ofCell, isConst, abin, acall1, abuiltin, aun, AV.cells, AV.one, Nat.reduceAdd, Int.reduceLT, Int.reduceLE, ↓WD, W0, evalOp, Nat.reduceEqDiff, Nat.reduceLT, ↓reduceIte, reduceCtorEq, hl, e0, d3, d7, d10, d55]
            refine GuardW_dec (fun c68 => ?_) (fun c68 => ?_)
            · rw [if_pos c68] at qj134
              have d69 : (decide (c ≥ 1040)) = true := decide_eq_true c68
              simp only [↓WE, WA, WL, aop, ofValue, ofCell, isConst, abin, acall1, abuiltin, aun, AV.cells, AV.one, Nat.reduceAdd, Int.reduceLT, Int.reduceLE, ↓WD, W0, evalOp, Nat.reduceEqDiff, Nat.reduceLT, ↓reduceIte, reduceCtorEq, hl, e0, d3, d7, d10, d55, d69]
              obtain rfl := Option.some.inj qj134
              exact ⟨(by simp only [List.length_set, hl]), (by simp only [W0, Nat.reduceEqDiff, Nat.reduceLT, ↓reduceIte, hl, e0]), (by simp only [W0, Nat.reduceEqDiff, Nat.reduceLT, ↓reduceIte, hl, e0]), S0⟩
            · rw [if_neg c68] at qj134
              have d70 : (decide (c ≥ 1040)) = false := decide_eq_false c68
              simp only [↓WE, WA, WL, aop, ofValue, ofCell, isConst, abin, acall1, abuiltin, aun, AV.cells, AV.one, Nat.reduceAdd, Int.reduceLT, Int.reduceLE, ↓WD, W0, evalOp, Nat.reduceEqDiff, Nat.reduceLT, ↓reduceIte, reduceCtorEq, hl, e0, d3, d7, d10, d55, d70]
              obtain rfl := Option.some.inj qj134
              exact ⟨(by simp only [List.length_set, hl]), (by simp only [W0, Nat.reduceEqDiff, Nat.reduceLT, ↓reduceIte, hl, e0]), (by simp only [W0, Nat.reduceEqDiff, Nat.reduceLT, ↓reduceIte, hl, e0]), S0⟩
    · rw [if_neg c2] at qj134
      have d4 : (decide (c ≥ 65)) = false := decide_eq_false c2
      simp only [↓WE, WA, WL, aop, ofValue, ofCell, isConst, abin, acall1, abuiltin, aun, AV.cells, AV.one, Nat.reduceAdd, Int.reduceLT, Int.reduceLE, ↓WD, W0, evalOp, Nat.reduceEqDiff, Nat.reduceLT, ↓reduceIte, reduceCtorEq, hl, e0, d4]
      refine GuardW_dec (fun c71 => ?_) (fun c71 => ?_)
      · rw [if_pos c71] at qj134
        have d72 : (decide (c ≥ 192)) = true := decide_eq_true c71
        simp only [↓WE, WA, WL, aop, ofValue, ofCell, isConst, abin, acall1, abuiltin, aun, AV.cells, AV.one, Nat.reduceAdd, Int.reduceLT, Int.reduceLE, ↓WD, W0, evalOp, Nat.reduceEqDiff, Nat.reduceLT, ↓reduceIte, reduceCtorEq, hl, e0, d4, d72]
        refine GuardW_dec (fun c74 => ?_) (fun c74 => ?_)
        · rw [if_pos c74] at qj134
          have d75 : (decide (c ≤ 222)) = true := decide_eq_true c74
          simp only [↓WE, WA, WL, aop, ofValue, ofCell, isConst, abin, acall1, abuiltin, aun, AV.cells, AV.one, Nat.reduceAdd, Int.reduceLT, Int.reduceLE, ↓WD, W0, evalOp, Nat.reduceEqDiff, Nat.reduceLT, ↓reduceIte, reduceCtorEq, hl, e0, d4, d72, d75]
          refine GuardW_boo (fun c77 => ?_) (fun c77 => ?_)
          · rw [if_pos c77] at qj134
            have d78 := c77
            simp only [↓WE, WA, WL, aop, ofValue, ofCell, isConst, abin, acall1, abuiltin, aun, AV.cells, AV.one, Nat.reduceAdd, Int.reduceLT, Int.reduceLE, ↓WD, W0, evalOp, Nat.reduceEqDiff, Nat.reduceLT, ↓reduceIte, reduceCtorEq, hl, e0, d4, d72, d75, d78]
            obtain rfl := Option.some.inj qj134
            exact ⟨(by simp only [List.length_set, hl]), (by simp only [W0, Nat.reduceEqDiff, Nat.reduceLT, ↓reduceIte, hl, e0]), (by simp only [W0, Nat.reduceEqDiff, Nat.reduceLT, ↓reduceIte, hl, e0]), S0⟩
          · rw [if_neg (nf c77)] at qj134
            have d79 := c77
            simp only [↓WE, WA, WL, aop, ofValue, ofCell, isConst, abin, acall1, abuiltin, aun, AV.cells, AV.one, Nat.reduceAdd, Int.reduceLT, Int.reduceLE, ↓WD, W0, evalOp, Nat.reduceEqDiff, Nat.reduceLT, ↓reduceIte, reduceCtorEq, hl, e0, d4, d72, d75, d79]
            refine GuardW_dec (fun c80 => ?_) (fun c80 => ?_)
            · rw [if_pos c80] at qj134
              have d81 : (decide (c ≥ 913)) = true := decide_eq_true c80
              simp only [↓WE, WA, WL, aop, ofValue, ofCell, isConst, abin, acall1, abuiltin, aun, AV.cells, AV.one, Nat.reduceAdd, Int.reduceLT, Int.reduceLE, ↓WD, W0, evalOp, Nat.reduceEqDiff, Nat.reduceLT, ↓reduceIte, reduceCtorEq, hl, e0, d4, d72, d75, d79, d81]
              refine GuardW_dec (fun c83 => ?_) (fun c83 => ?_)
              · rw [if_pos c83] at qj134
                have d84 : (decide (c ≤ 937)) = true := decide_eq_true c83
                simp only [↓WE, WA, WL, aop, ofValue, ofCell, isConst, abin, acall1, abuiltin, aun, AV.cells, AV.one, Nat.reduceAdd, Int.reduceLT, Int.reduceLE, ↓WD, W0, evalOp, Nat.reduceEqDiff, Nat.reduceLT, ↓reduceIte, reduceCtorEq, hl, e0, d4, d72, d75, d79, d81, d84]
                refine GuardW_boo (fun c86 => ?_) (fun c86 => ?_)
                · rw [if_pos c86] at qj134
                  have d87 := c86
                  simp only [↓WE, WA, WL, aop, ofValue, ofCell, isConst, abin, acall1, abuiltin, aun, AV.cells, AV.one, Nat.reduceAdd, Int.reduceLT, Int.reduceLE, ↓WD, W0, evalOp, Nat.reduceEqDiff, Nat.reduceLT, ↓reduceIte, reduceCtorEq, hl, e0, d4, d72, d75, d79, d81, d84, d87]
                  obtain rfl := Option.some.inj qj134
                  exact ⟨(by simp only [List.length_set, hl]), (by simp only [W0, Nat.reduceEqDiff, Nat.reduceLT, ↓reduceIte, hl, e0]), (by simp only [W0, Nat.reduceEqDiff, Nat.reduceLT, ↓reduceIte, hl, e0]), S0⟩
                · rw [if_neg (nf c86)] at qj134
                  have d88 := c86
                  simp only [↓WE, WA, WL, aop, ofValue, ofCell, isConst, abin, acall1, abuiltin, aun, AV.cells, AV.one, Nat.reduceAdd, Int.reduceLT, Int.reduceLE, ↓WD, W0, evalOp, Nat.reduceEqDiff, Nat.reduceLT, ↓reduceIte, reduceCtorEq, hl, e0, d4, d72, d75, d79, d81, d84, d88]
                  refine GuardW_dec (fun c89 => ?_) (fun c89 => ?_)
                  · rw [if_pos c89] at qj134
                    have d90 : (decide (c ≥ 1040)) = true := decide_eq_true c89
                    simp only [↓WE, WA, WL, aop, ofValue, ofCell, isConst, abin, acall1, abuiltin, aun, AV.cells, AV.one, Nat.reduceAdd, Int.reduceLT, Int.reduceLE, ↓WD, W0, evalOp, Nat.reduceEqDiff, Nat.reduceLT, ↓reduceIte, reduceCtorEq, hl, e0, d4, d72, d75, d79, d81, d84, d88, d90]
                    obtain rfl := Option.some.inj qj134
                    exact ⟨(by simp only [List.length_set, hl]), (by simp only [W0, Nat.reduceEqDiff, Nat.reduceLT, ↓reduceIte, hl, e0]), (by simp only [W0, Nat.reduceEqDiff, Nat.reduceLT, ↓reduceIte, hl, e0]), S0⟩
                  · rw [if_neg c89] at qj134
                    have d91 : (decide (c ≥ 1040)) = false := decide_eq_false c89
                    simp only [↓WE, WA, WL, aop, ofValue, ofCell, isConst, abin, acall1, abuiltin, aun, AV.cells, AV.one, Nat.reduceAdd, Int.reduceLT, Int.reduceLE, ↓WD, W0, evalOp, Nat.reduceEqDiff, Nat.reduceLT, ↓reduceIte, reduceCtorEq, hl, e0, d4, d72, d75, d79, d81, d84, d88, d91]
                    obtain rfl := Option.some.inj qj134
                    exact ⟨(by simp only [List.length_set, hl]), (by simp only [W0, Nat.reduceEqDiff, Nat.reduceLT, ↓reduceIte, hl, e0]), (by simp only [W0, Nat.reduceEqDiff, Nat.reduceLT, ↓reduceIte, hl, e0]), S0⟩
              · rw [if_neg c83] at qj134
                have d85 : (decide (c ≤ 937)) = false := decide_eq_false c83
                simp only [↓WE, WA, WL, aop, ofValue, ofCell, isConst, abin, acall1, abuiltin, aun, AV.cells, AV.one, Nat.reduceAdd, Int.reduceLT, Int.reduceLE, ↓WD, W0, evalOp, Nat.reduceEqDiff, Nat.reduceLT, ↓reduceIte, reduceCtorEq, hl, e0, d4, d72, d75, d79, d81, d85]
                refine GuardW_dec (fun c92 => ?_) (fun c92 => ?_)
                · rw [if_pos c92] at qj134
                  have d93 : (decide (c ≥ 1040)) = true := decide_eq_true c92
                  simp only [↓WE, WA, WL, aop, ofValue, ofCell, isConst, abin, acall1, abuiltin, aun, AV.cells, AV.one, Nat.reduceAdd, Int.reduceLT, Int.reduceLE, ↓WD, W0, evalOp, Nat.reduceEqDiff, Nat.reduceLT, ↓reduceIte, reduceCtorEq, hl, e0, d4, d72, d75, d79, d81, d85, d93]
                  obtain rfl := Option.some.inj qj134
                  exact ⟨(by simp only [List.length_set, hl]), (by simp only [W0, Nat.reduceEqDiff, Nat.reduceLT, ↓reduceIte, hl, e0]), (by simp only [W0, Nat.reduceEqDiff, Nat.reduceLT, ↓reduceIte, hl, e0]), S0⟩
                · rw [if_neg c92] at qj134
                  have d94 : (decide (c ≥ 1040)) = false := decide_eq_false c92
                  simp only [↓WE, WA, WL, aop, ofValue, ofCell, isConst, abin, acall1, abuiltin, aun, AV.cells, AV.one, Nat.reduceAdd, Int.reduceLT, Int.reduceLE, ↓WD, W0, evalOp, Nat.reduceEqDiff, Nat.reduceLT, ↓reduceIte, reduceCtorEq, hl, e0, d4, d72, d75, d79, d81, d85, d94]
                  obtain rfl := Option.some.inj qj134
                  exact ⟨(by simp only [List.length_set, hl]), (by simp only [W0, Nat.reduceEqDiff, Nat.reduceLT, ↓reduceIte, hl, e0]), (by simp only [W0, Nat.reduceEqDiff, Nat.reduceLT, ↓reduceIte, hl, e0]), S0⟩
            · rw [if_neg c80] at qj134
              have d82 : (decide (c ≥ 913)) = false := decide_eq_false c80
              simp only [↓WE, WA, WL, aop, ofValue, ofCell, isConst, abin, acall1, abuiltin, aun, AV.cells, AV.one, Nat.reduceAdd, Int.reduceLT, Int.reduceLE, ↓WD, W0, evalOp, Nat.reduceEqDiff, Nat.reduceLT, ↓reduceIte, reduceCtorEq, hl, e0, d4, d72, d75, d79, d82]
              refine GuardW_dec (fun c95 => ?_) (fun c95 => ?_)
              · rw [if_pos c95] at qj134
                have d96 : (decide (c ≥ 1040)) = true := decide_eq_true c95
                simp only [↓WE, WA, WL, aop, ofValue, ofCell, isConst, abin, acall1, abuiltin, aun, AV.cells, AV.one, Nat.reduceAdd, Int.reduceLT, Int.reduceLE, ↓WD, W0, evalOp, Nat.reduceEqDiff, Nat.reduceLT, ↓reduceIte, reduceCtorEq, hl, e0, d4, d72, d75, d79, d82, d96]
                obtain rfl := Option.some.inj qj134
                exact ⟨(by simp only [List.length_set, hl]), (by simp only [W0, Nat.reduceEqDiff, Nat.reduceLT, ↓reduceIte, hl, e0]), (by simp only [W0, Nat.reduceEqDiff, Nat.reduceLT, ↓reduceIte, hl, e0]), S0⟩
              · rw [if_neg c95] at qj134
                have d97 : (decide (c ≥ 1040)) = false := decide_eq_false c95
                simp only [↓WE, WA, WL, aop, ofValue, ofCell, isConst, abin, acall1, abuiltin, aun, AV.cells, AV.one, Nat.reduceAdd, Int.reduceLT, Int.reduceLE, ↓WD, W0, evalOp, Nat.reduceEqDiff, Nat.reduceLT, ↓reduceIte, reduceCtorEq, hl, e0, d4, d72, d75, d79, d82, d97]
                obtain rfl := Option.some.inj qj134
                exact ⟨(by simp only [List.length_set, hl]), (by simp only [W0, Nat.reduceEqDiff, Nat.reduceLT, ↓reduceIte, hl, e0]), (by simp only [W0, Nat.reduceEqDiff, Nat.reduceLT, ↓reduceIte, hl, e0]), S0⟩
        · rw [if_neg c74] at qj134
          have d76 : (decide (c ≤ 222)) = false := decide_eq_false c74
          simp only [↓WE, WA, WL, aop, ofValue, ofCell, isConst, abin, acall1, abuiltin, aun, AV.cells, AV.one, Nat.reduceAdd, Int.reduceLT, Int.reduceLE, ↓WD, W0, evalOp, Nat.reduceEqDiff, Nat.reduceLT, ↓reduceIte, reduceCtorEq, hl, e0, d4, d72, d76]
          refine GuardW_dec (fun c98 => ?_) (fun c98 => ?_)
          · rw [if_pos c98] at qj134
            have d99 : (decide (c ≥ 913)) = true := decide_eq_true c98
            simp only [↓WE, WA, WL, aop, ofValue, ofCell, isConst, abin, acall1, abuiltin, aun, AV.cells, AV.one, Nat.reduceAdd, Int.reduceLT, Int.reduceLE, ↓WD, W0, evalOp, Nat.reduceEqDiff, Nat.reduceLT, ↓reduceIte, reduceCtorEq, hl, e0, d4, d72, d76, d99]
            refine GuardW_dec (fun c101 => ?_) (fun c101 => ?_)
            · rw [if_pos c101] at qj134
              have d102 : (decide (c ≤ 937)) = true := decide_eq_true c101
              simp only [↓WE, WA, WL, aop, ofValue, ofCell, isConst, abin, acall1, abuiltin, aun, AV.cells, AV.one, Nat.reduceAdd, Int.reduceLT, Int.reduceLE, ↓WD, W0, evalOp, Nat.reduceEqDiff, Nat.reduceLT, ↓reduceIte, reduceCtorEq, hl, e0, d4, d72, d76, d99, d102]
              refine GuardW_boo (fun c104 => ?_) (fun c104 => ?_)
              · rw [if_pos c104] at qj134
                have d105 := c104
                simp only [↓WE, WA, WL, aop, ofValue, ofCell, isConst, abin, acall1, abuiltin, aun, AV.cells, AV.one, Nat.reduceAdd, Int.reduceLT, Int.reduceLE, ↓WD, W0, evalOp, Nat.reduceEqDiff, Nat.reduceLT, ↓reduceIte, reduceCtorEq, hl, e0, d4, d72, d76, d99, d102, d105]
                obtain rfl := Option.some.inj qj134
                exact ⟨(by simp only [List.length_set, hl]), (by simp only [W0, Nat.reduceEqDiff, Nat.reduceLT, ↓reduceIte, hl, e0]), (by simp only [W0, Nat.reduceEqDiff, Nat.reduceLT, ↓reduceIte, hl, e0]), S0⟩
              · rw [if_neg (nf c104)] at qj134
                have d106 := c104
                simp only [↓WE, WA, WL, aop, ofValue, ofCell, isConst, abin, acall1, abuiltin, aun, AV.cells, AV.one, Nat.reduceAdd, Int.reduceLT, Int.reduceLE, ↓WD, W0, evalOp, Nat.reduceEqDiff, Nat.reduceLT, ↓reduceIte, reduceCtorEq, hl, e0, d4, d72, d76, d99, d102, d106]
                refine GuardW_dec (fun c107 => ?_) (fun c107 => ?_)
                · rw [if_pos c107] at qj134
                  have d108 : (decide (c ≥ 1040)) = true := decide_eq_true c107
                  simp only [↓WE, WA, WL, aop, ofValue, ofCell, isConst, abin, acall1, abuiltin, aun, AV.cells, AV.one, Nat.reduceAdd, Int.reduceLT, Int.reduceLE, ↓WD, W0, evalOp, Nat.reduceEqDiff, Nat.reduceLT, ↓reduceIte, reduceCtorEq, hl, e0, d4, d72, d76, d99, d102, d106, d108]
                  obtain rfl := Option.some.inj qj134
                  exact ⟨(by simp only [List.length_set, hl]), (by simp only [W0, Nat.reduceEqDiff, Nat.reduceLT, ↓reduceIte, hl, e0]), (by simp only [W0, Nat.reduceEqDiff, Nat.reduceLT, ↓reduceIte, hl, e0]), S0⟩
                · rw [if_neg c107] at qj134
                  have d109 : (decide (c ≥ 1040)) = false := decide_eq_false c107
                  simp only [↓WE, WA, WL, aop, ofValue, ofCell, isConst, abin, acall1, abuiltin, aun, AV.cells, AV.one, Nat.reduceAdd, Int.reduceLT, Int.reduceLE, ↓WD, W0, evalOp, Nat.reduceEqDiff, Nat.reduceLT, ↓reduceIte, reduceCtorEq, hl, e0, d4, d72, d76, d99, d102, d106, d109]
                  obtain rfl := Option.some.inj qj134
                  exact ⟨(by simp only [List.length_set, hl]), (by simp only [W0, Nat.reduceEqDiff, Nat.reduceLT, ↓reduceIte, hl, e0]), (by simp only [W0, Nat.reduceEqDiff, Nat.reduceLT, ↓reduceIte, hl, e0]), S0⟩
            · rw [if_neg c101] at qj134
              have d103 : (decide (c ≤ 937)) = false := decide_eq_false c101
              simp only [↓WE, WA, WL, aop, ofValue, ofCell, isConst, abin, acall1, abuiltin, aun, AV.cells, AV.one, Nat.reduceAdd, Int.reduceLT, Int.reduceLE, ↓WD, W0, evalOp, Nat.reduceEqDiff, Nat.reduceLT, ↓reduceIte, reduceCtorEq, hl, e0, d4, d72, d76, d99, d103]
              refine GuardW_dec (fun c110 => ?_) (fun c110 => ?_)
              · rw [if_pos c110] at qj134
                have d111 : (decide (c ≥ 1040)) = true := decide_eq_true c110
                simp only [↓WE, WA, WL, aop, ofValue, ofCell, isConst, abin, acall1, abuiltin, aun, AV.cells, AV.one, Nat.reduceAdd, Int.reduceLT, Int.reduceLE, ↓WD, W0, evalOp, Nat.reduceEqDiff, Nat.reduceLT, ↓reduceIte, reduceCtorEq, hl, e0, d4, d72, d76, d99, d103, d111]
                obtain rfl := Option.some.inj qj134
                exact ⟨(by simp only [List.length_set, hl]), (by simp only [W0, Nat.reduceEqDiff, Nat.reduceLT, ↓reduceIte, hl, e0]), (by simp only [W0, Nat.reduceEqDiff, Nat.reduceLT, ↓reduceIte, hl, e0]), S0⟩
              · rw [if_neg c110] at qj134
                have d112 : (decide (c ≥ 1040)) = false := decide_eq_false c110
                simp only [↓WE, WA, WL, aop, ofValue, ofCell, isConst, abin, acall1, abuiltin, aun, AV.cells, AV.one, Nat.reduceAdd, Int.reduceLT, Int.reduceLE, ↓WD, W0, evalOp, Nat.reduceEqDiff, Nat.reduceLT, ↓reduceIte, reduceCtorEq, hl, e0, d4, d72, d76, d99, d103, d112]
                obtain rfl := Option.some.inj qj134
                exact ⟨(by simp only [List.length_set, hl]), (by simp only [W0, Nat.reduceEqDiff, Nat.reduceLT, ↓reduceIte, hl, e0]), (by simp only [W0, Nat.reduceEqDiff, Nat.reduceLT, ↓reduceIte, hl, e0]), S0⟩
          · rw [if_neg c98] at qj134
            have d100 : (decide (c ≥ 913)) = false := decide_eq_false c98
            simp only [↓WE, WA, WL, aop, ofValue, ofCell, isConst, abin, acall1, abuiltin, aun, AV.cells, AV.one, Nat.reduceAdd, Int.reduceLT, Int.reduceLE, ↓WD, W0, evalOp, Nat.reduceEqDiff, Nat.reduceLT, ↓reduceIte, reduceCtorEq, hl, e0, d4, d72, d76, d100]
            refine GuardW_dec (fun c113 => ?_) (fun c113 => ?_)
            · rw [if_pos c113] at qj134
              have d114 : (decide (c ≥ 1040)) = true := decide_eq_true c113
              simp only [↓WE, WA, WL, aop, ofValue, ofCell, isConst, abin, acall1, abuiltin, aun, AV.cells, AV.one, Nat.reduceAdd, Int.reduceLT, Int.reduceLE, ↓WD, W0, evalOp, Nat.reduceEqDiff, Nat.reduceLT, ↓reduceIte, reduceCtorEq, hl, e0, d4, d72, d76, d100, d114]
              obtain rfl := Option.some.inj qj134
              exact ⟨(by simp only [List.length_set, hl]), (by simp only [W0, Nat.reduceEqDiff, Nat.reduceLT, ↓reduceIte, hl, e0]), (by simp only [W0, Nat.reduceEqDiff, Nat.reduceLT, ↓reduceIte, hl, e0]), S0⟩
            · rw [if_neg c113] at qj134
              have d115 : (decide (c ≥ 1040)) = false := decide_eq_false c113
              simp only [↓WE, WA, WL, aop, ofValue, ofCell, isConst, abin, acall1, abuiltin, aun, AV.cells, AV.one, Nat.reduceAdd, Int.reduceLT, Int.reduceLE, ↓WD, W0, evalOp, Nat.reduceEqDiff, Nat.reduceLT, ↓reduceIte, reduceCtorEq, hl, e0, d4, d72, d76, d100, d115]
              obtain rfl := Option.some.inj qj134
              exact ⟨(by simp only [List.length_set, hl]), (by simp only [W0, Nat.reduceEqDiff, Nat.reduceLT, ↓reduceIte, hl, e0]), (by simp only [W0, Nat.reduceEqDiff, Nat.reduceLT, ↓reduceIte, hl, e0]), S0⟩
      · rw [if_neg c71] at qj134
        have d73 : (decide (c ≥ 192)) = false := decide_eq_false c71
        simp only [↓WE, WA, WL, aop, ofValue, ofCell, isConst, abin, acall1, abuiltin, aun, AV.cells, AV.one, Nat.reduceAdd, Int.reduceLT, Int.reduceLE, ↓WD, W0, evalOp, Nat.reduceEqDiff, Nat.reduceLT, ↓reduceIte, reduceCtorEq, hl, e0, d4, d73]
        refine GuardW_dec (fun c116 => ?_) (fun c116 => ?_)
        · rw [if_pos c116] at qj134
          have d117 : (decide (c ≥ 913)) = true := decide_eq_true c116
          simp only [↓WE, WA, WL, aop, ofValue, ofCell, isConst, abin, acall1, abuiltin, aun, AV.cells, AV.one, Nat.reduceAdd, Int.reduceLT, Int.reduceLE, ↓WD, W0, evalOp, Nat.reduceEqDiff, Nat.reduceLT, ↓reduceIte, reduceCtorEq, hl, e0, d4, d73, d117]
          refine GuardW_dec (fun c119 => ?_) (fun c119 => ?_)
          · rw [if_pos c119] at qj134
            have d120 : (decide (c ≤ 937)) = true := decide_eq_true c119
            simp only [↓WE, WA, WL, aop, ofValue, ofCell, isConst, abin, acall1, abuiltin, aun, AV.cells, AV.one, Nat.reduceAdd, Int.reduceLT, Int.reduceLE, ↓WD, W0, evalOp, Nat.reduceEqDiff, Nat.reduceLT, ↓reduceIte, reduceCtorEq, hl, e0, d4, d73, d117, d120]
            refine GuardW_boo (fun c122 => ?_) (fun c122 => ?_)
            · rw [if_pos c122] at qj134
              have d123 := c122
              simp only [↓WE, WA, WL, aop, ofValue, ofCell, isConst, abin, acall1, abuiltin, aun, AV.cells, AV.one, Nat.reduceAdd, Int.reduceLT, Int.reduceLE, ↓WD, W0, evalOp, Nat.reduceEqDiff, Nat.reduceLT, ↓reduceIte, reduceCtorEq, hl, e0, d4, d73, d117, d120, d123]
              obtain rfl := Option.some.inj qj134
              exact ⟨(by simp only [List.length_set, hl]), (by simp only [W0, Nat.reduceEqDiff, Nat.reduceLT, ↓reduceIte, hl, e0]), (by simp only [W0, Nat.reduceEqDiff, Nat.reduceLT, ↓reduceIte, hl, e0]), S0⟩
            · rw [if_neg (nf c122)] at qj134
              have d124 := c122
              simp only [↓WE, WA, WL, aop, ofValue, ofCell, isConst, abin, acall1, abuiltin, aun, AV.cells, AV.one, Nat.reduceAdd, Int.reduceLT, Int.reduceLE, ↓WD, W0, evalOp, Nat.reduceEqDiff, Nat.reduceLT, ↓reduceIte, reduceCtorEq, hl, e0, d4, d73, d117, d120, d124]
              refine GuardW_dec (fun c125 => ?_) (fun c125 => ?_)
              · rw [if_pos c125] at qj134
                have d126 : (decide (c ≥ 1040)) = true := decide_eq_true c125
                simp only [↓WE, WA, WL, aop, ofValue, ofCell, isConst, abin, acall1, abuiltin, aun, AV.cells, AV.one, Nat.reduceAdd, Int.reduceLT, Int.reduceLE, ↓WD, W0, evalOp, Nat.reduceEqDiff, Nat.reduceLT, ↓reduceIte, reduceCtorEq, hl, e0, d4, d73, d117, d120, d124, d126]
                obtain rfl := Option.some.inj qj134
                exact ⟨(by simp only [List.length_set, hl]), (by simp only [W0, Nat.reduceEqDiff, Nat.reduceLT, ↓reduceIte, hl, e0]), (by simp only [W0, Nat.reduceEqDiff, Nat.reduceLT, ↓reduceIte, hl, e0]), S0⟩
              · rw [if_neg c125] at qj134
                have d127 : (decide (c ≥ 1040)) = false := decide_eq_false c125
                simp only [↓WE, WA, WL, aop, ofValue, ofCell, isConst, abin, acall1, abuiltin, aun, AV.cells, AV.one, Nat.reduceAdd, Int.reduceLT, Int.reduceLE, ↓WD, W0, evalOp, Nat.reduceEqDiff, Nat.reduceLT, ↓reduceIte, reduceCtorEq, hl, e0, d4, d73, d117, d120, d124, d127]
                obtain rfl := Option.some.inj qj134
                exact ⟨(by simp only [List.length_set, hl]), (by simp only [W0, Nat.reduceEqDiff, Nat.reduceLT, ↓reduceIte, hl, e0]), (by simp only [W0, Nat.reduceEqDiff, Nat.reduceLT, ↓reduceIte, hl, e0]), S0⟩
          · rw [if_neg c119] at qj134
            have d121 : (decide (c ≤ 937)) = false := decide_eq_false c119
            simp only [↓WE, WA, WL, aop, ofValue, ofCell, isConst, abin, acall1, abuiltin, aun, AV.cells, AV.one, Nat.reduceAdd, Int.reduceLT, Int.reduceLE, ↓WD, W0, evalOp, Nat.reduceEqDiff, Nat.reduceLT, ↓reduceIte, reduceCtorEq, hl, e0, d4, d73, d117, d121]
            refine GuardW_dec (fun c128 => ?_) (fun c128 => ?_)
            · rw [if_pos c128] at qj134
              have d129 : (decide (c ≥ 1040)) = true := decide_eq_true c128
              simp only [↓WE, WA, WL, aop, ofValue, ofCell, isConst, abin, acall1, abuiltin, aun, AV.cells, AV.one, Nat.reduceAdd, Int.reduceLT, Int.reduceLE, ↓WD, W0, evalOp, Nat.reduceEqDiff, Nat.reduceLT, ↓reduceIte, reduceCtorEq, hl, e0, d4, d73, d117, d121, d129]
              obtain rfl := Option.some.inj qj134
              exact ⟨(by simp only [List.length_set, hl]), (by simp only [W0, Nat.reduceEqDiff, Nat.reduceLT, ↓reduceIte, hl, e0]), (by simp only [W0, Nat.reduceEqDiff, Nat.reduceLT, ↓reduceIte, hl, e0]), S0⟩
            · rw [if_neg c128] at qj134
              have d130 : (decide (c ≥ 1040)) = false := decide_eq_false c128
              simp only [↓WE, WA, WL, aop, ofValue, ofCell, isConst, abin, acall1, abuiltin, aun, AV.cells, AV.one, Nat.reduceAdd, Int.reduceLT, Int.reduceLE, ↓WD, W0, evalOp, Nat.reduceEqDiff, Nat.reduceLT, ↓reduceIte, reduceCtorEq, hl, e0, d4, d73, d117, d121, d130]
              obtain rfl := Option.some.inj qj134
              exact ⟨(by simp only [List.length_set, hl]), (by simp only [W0, Nat.reduceEqDiff, Nat.reduceLT, ↓reduceIte, hl, e0]), (by simp only [W0, Nat.reduceEqDiff, Nat.reduceLT, ↓reduceIte, hl, e0]), S0⟩
        · rw [if_neg c116] at qj134
          have d118 : (decide (c ≥ 913)) = false := decide_eq_false c116
          simp only [↓WE, WA, WL, aop, ofValue, ofCell, isConst, abin, acall1, abuiltin, aun, AV.cells, AV.one, Nat.reduceAdd, Int.reduceLT, Int.reduceLE, ↓WD, W0, evalOp, Nat.reduceEqDiff, Nat.reduceLT, ↓reduceIte, reduceCtorEq, hl, e0, d4, d73, d118]
          refine GuardW_dec (fun c131 => ?_) (fun c131 => ?_)
          · rw [if_pos c131] at qj134
            have d132 : (decide (c ≥ 1040)) = true := decide_eq_true c131
            simp only [↓WE, WA, WL, aop, ofValue, ofCell, isConst, abin, acall1, abuiltin, aun, AV.cells, AV.one, Nat.reduceAdd, Int.reduceLT, Int.reduceLE, ↓WD, W0, evalOp, Nat.reduceEqDiff, Nat.reduceLT, ↓reduceIte, reduceCtorEq, hl, e0, d4, d73, d118, d132]
            obtain rfl := Option.some.inj qj134
            exact ⟨(by simp only [List.length_set, hl]), (by simp only [W0, Nat.reduceEqDiff, Nat.reduceLT, ↓reduceIte, hl, e0]), (by simp only [W0, Nat.reduceEqDiff, Nat.reduceLT, ↓reduceIte, hl, e0]), S0⟩
          · rw [if_neg c131] at qj134
            have d133 : (decide (c ≥ 1040)) = false := decide_eq_false c131
            simp only [↓WE, WA, WL, aop, ofValue, ofCell, isConst, abin, acall1, abuiltin, aun, AV.cells, AV.one, Nat.reduceAdd, Int.reduceLT, Int.reduceLE, ↓WD, W0, evalOp, Nat.reduceEqDiff, Nat.reduceLT, ↓reduceIte, reduceCtorEq, hl, e0, d4, d73, d118, d133]
            obtain rfl := Option.some.inj qj134
            exact ⟨(by simp only [List.length_set, hl]), (by simp only [W0, Nat.reduceEqDiff, Nat.reduceLT, ↓reduceIte, hl, e0]), (by simp only [W0, Nat.reduceEqDiff, Nat.reduceLT, ↓reduceIte, hl, e0]), S0⟩
  · rintro envj134 h136 ⟨hl, e0, e40, S135⟩
    try simp only [↓WD, W0, evalOp, Nat.reduceEqDiff, Nat.reduceLT, ↓reduceIte, reduceCtorEq, hl, e0, e40]
    refine CondK_boo (fun c139 => ?_) (fun c139 => ?_)
    · rw [if_pos c139] at hF
      try simp only [↓WD, W0, evalOp, Nat.reduceEqDiff, Nat.reduceLT, ↓reduceIte, reduceCtorEq, hl, e0, e40]
      rw [AW_region]
      refine AE_joinR (fun e h' => h136 = h' ∧ e.length = 52 ∧ e.getD 2 .undef = .int .i64 (IntKind.i64.wrap (c + 32))) (by
        simp only [↓WE, WA, WL, aop, ofValue, ofCell, isConst, abin, acall1, abuiltin, aun, AV.cells, AV.one, Nat.reduceAdd, Int.reduceLT, Int.reduceLE, ↓WD, W0, evalOp, Nat.reduceEqDiff, Nat.reduceLT, ↓reduceIte, reduceCtorEq, hl, e0, e40]
        exact ⟨rfl, (by simp only [List.length_set, hl]), (by simp only [W0, Nat.reduceEqDiff, Nat.reduceLT, ↓reduceIte, hl, e0, e40])⟩) ?_
      rintro envg140 _ ⟨rfl, hl, e2⟩
      try simp only [↓WD, W0, evalOp, Nat.reduceEqDiff, Nat.reduceLT, ↓reduceIte, reduceCtorEq, hl, e2]
      refine KP_ret (vs := [.int .i64 (IntKind.i64.wrap (c + 32))]) (by simp only [aresults, aresult, gs, List.length_set, Nat.reduceEqDiff, Nat.reduceLT, ↓reduceIte, hl, e2]) ?_
      obtain rfl := Option.some.inj hF
      exact rfl
    · rw [if_neg (nf c139)] at hF
      try simp only [↓WD, W0, evalOp, Nat.reduceEqDiff, Nat.reduceLT, ↓reduceIte, reduceCtorEq, hl, e0, e40]
      rw [AW_region]
      obtain ⟨j144, qj144, hF⟩ := obind hF
      refine AE_joinR (fun e h' => e.length = 52 ∧ e.getD 0 .undef = .int .i64 c ∧ e.getD 48 .undef = .bool j144 ∧ Sep h [] h' []) ?_ ?_
      · simp only [↓WE, WA, WL, aop, ofValue, ofCell, isConst, abin, acall1, abuiltin, aun, AV.cells, AV.one, Nat.reduceAdd, Int.reduceLT, Int.reduceLE, ↓WD, W0, evalOp, Nat.reduceEqDiff, Nat.reduceLT, ↓reduceIte, reduceCtorEq, hl, e0, e40]
        refine GuardW_dec (fun c141 => ?_) (fun c141 => ?_)
        · rw [if_pos c141] at qj144
          have d142 : (decide (c ≥ 1024)) = true := decide_eq_true c141
          simp only [↓WE, WA, WL, aop, ofValue, ofCell, isConst, abin, acall1, abuiltin, aun, AV.cells, AV.one, Nat.reduceAdd, Int.reduceLT, Int.reduceLE, ↓WD, W0, evalOp, Nat.reduceEqDiff, Nat.reduceLT, ↓reduceIte, reduceCtorEq, hl, e0, e40, d142]
          obtain rfl := Option.some.inj qj144
          exact ⟨(by simp only [List.length_set, hl]), (by simp only [W0, Nat.reduceEqDiff, Nat.reduceLT, ↓reduceIte, hl, e0, e40]), (by simp only [W0, Nat.reduceEqDiff, Nat.reduceLT, ↓reduceIte, hl, e0, e40]), S135⟩
        · rw [if_neg c141] at qj144
          have d143 : (decide (c ≥ 1024)) = false := decide_eq_false c141
          simp only [↓WE, WA, WL, aop, ofValue, ofCell, isConst, abin, acall1, abuiltin, aun, AV.cells, AV.one, Nat.reduceAdd, Int.reduceLT, Int.reduceLE, ↓WD, W0, evalOp, Nat.reduceEqDiff, Nat.reduceLT, ↓reduceIte, reduceCtorEq, hl, e0, e40, d143]
          obtain rfl := Option.some.inj qj144
          exact ⟨(by simp only [List.length_set, hl]), (by simp only [W0, Nat.reduceEqDiff, Nat.reduceLT, ↓reduceIte, hl, e0, e40]), (by simp only [W0, Nat.reduceEqDiff, Nat.reduceLT, ↓reduceIte, hl, e0, e40]), S135⟩
      · rintro envj144 h146 ⟨hl, e0, e48, S145⟩
        try simp only [↓WD, W0, evalOp, Nat.reduceEqDiff, Nat.reduceLT, ↓reduceIte, reduceCtorEq, hl, e0, e48]
        refine CondK_boo (fun c149 => ?_) (fun c149 => ?_)
        · rw [if_pos c149] at hF
          try simp only [↓WD, W0, evalOp, Nat.reduceEqDiff, Nat.reduceLT, ↓reduceIte, reduceCtorEq, hl, e0, e48]
          rw [AW_region]
          refine AE_joinR (fun e h' => h146 = h' ∧ e.length = 52 ∧ e.getD 2 .undef = .int .i64 (IntKind.i64.wrap (c + 80))) (by
            simp only [↓WE, WA, WL, aop, ofValue, ofCell, isConst, abin, acall1, abuiltin, aun, AV.cells, AV.one, Nat.reduceAdd, Int.reduceLT, Int.reduceLE, ↓WD, W0, evalOp, Nat.reduceEqDiff, Nat.reduceLT, ↓reduceIte, reduceCtorEq, hl, e0, e48]
            exact ⟨rfl, (by simp only [List.length_set, hl]), (by simp only [W0, Nat.reduceEqDiff, Nat.reduceLT, ↓reduceIte, hl, e0, e48])⟩) ?_
          rintro envg150 _ ⟨rfl, hl, e2⟩
          try simp only [↓WD, W0, evalOp, Nat.reduceEqDiff, Nat.reduceLT, ↓reduceIte, reduceCtorEq, hl, e2]
          refine KP_ret (vs := [.int .i64 (IntKind.i64.wrap (c + 80))]) (by simp only [aresults, aresult, gs, List.length_set, Nat.reduceEqDiff, Nat.reduceLT, ↓reduceIte, hl, e2]) ?_
          obtain rfl := Option.some.inj hF
          exact rfl
        · rw [if_neg (nf c149)] at hF
          try simp only [↓WD, W0, evalOp, Nat.reduceEqDiff, Nat.reduceLT, ↓reduceIte, reduceCtorEq, hl, e0, e48]
          rw [AW_region]
          refine AE_joinR (fun e h' => h146 = h' ∧ e.length = 52 ∧ e.getD 2 .undef = .int .i64 c) (by
            simp only [↓WE, WA, WL, aop, ofValue, ofCell, isConst, abin, acall1, abuiltin, aun, AV.cells, AV.one, Nat.reduceAdd, Int.reduceLT, Int.reduceLE, ↓WD, W0, evalOp, Nat.reduceEqDiff, Nat.reduceLT, ↓reduceIte, reduceCtorEq, hl, e0, e48]
            exact ⟨rfl, (by simp only [List.length_set, hl]), (by simp only [W0, Nat.reduceEqDiff, Nat.reduceLT, ↓reduceIte, hl, e0, e48])⟩) ?_
          rintro envg151 _ ⟨rfl, hl, e2⟩
          try simp only [↓WD, W0, evalOp, Nat.reduceEqDiff, Nat.reduceLT, ↓reduceIte, reduceCtorEq, hl, e2]
          refine KP_ret (vs := [.int .i64 c]) (by simp only [aresults, aresult, gs, List.length_set, Nat.reduceEqDiff, Nat.reduceLT, ↓reduceIte, hl, e2]) ?_
          obtain rfl := Option.some.inj hF
          exact rfl
set_option maxRecDepth 100000 in
set_option maxHeartbeats 4000000 in
theorem W_ref14_utf8 {K : PureK} (n18 : K 18 = none) (m : Nat) (hm : NF + 1 ≤ m) (h : AH) (c : Int) {r : (List UInt8)} (hF : F_ref14_utf8 c = some r) :
    AR (acall Tryd.prog (hooksOf K) (drawnOf Tryd.prog (tabOf K)) m 18 [.int .i64 c] h) (fun v h' => v = .str r) := by
  obtain ⟨m, rfl⟩ : ∃ k, m = k + 1 := ⟨m - 1, by omega⟩
  refine AR_call (hooksOf_none n18) Tryd.func18 rfl _ _ fun env hl he => ?_
  have e0 := he 0
  simp only [List.getD_cons_zero, List.getD_cons_succ] at e0
  simp only [Tryd.f18] at hl ⊢
  simp only [List.length_cons, List.length_nil, Nat.reduceAdd, Nat.reduceSub] at hl
  clear he
  have S0 : Sep h [] h [] := Sep.nil h
  rw [F_ref14_utf8] at hF
  try simp only [↓WD, W0, evalOp, Nat.reduceEqDiff, Nat.reduceLT, ↓reduceIte, reduceCtorEq, hl, e0]
  rw [AW_region]
  refine AE_joinR (fun e h' => h = h' ∧ e.length = 19 ∧ e.getD 0 .undef = .int .i64 c) (by
    simp only [↓WE, WA, WL, aop, ofValue, ofCell, isConst, abin, acall1, abuiltin, aun, AV.cells, AV.one, Nat.reduceAdd, Int.reduceLT, Int.reduceLE, ↓WD, W0, evalOp, Nat.reduceEqDiff, Nat.reduceLT, ↓reduceIte, reduceCtorEq, hl, e0]
    exact ⟨rfl, (by simp only [List.length_set, hl]), (by simp only [W0, Nat.reduceEqDiff, Nat.reduceLT, ↓reduceIte, hl, e0])⟩) ?_
  rintro envg1 _ ⟨rfl, hl, e0⟩
  try simp only [↓WD, W0, evalOp, Nat.reduceEqDiff, Nat.reduceLT, ↓reduceIte, reduceCtorEq, hl, e0]
  rw [AW_region]
  refine AE_joinR (fun e h' => h = h' ∧ e.length = 19 ∧ e.getD 0 .undef = .int .i64 c ∧ e.getD 4 .undef = .bool (decide (c < 128))) (by
    simp only [↓WE, WA, WL, aop, ofValue, ofCell, isConst, abin, acall1, abuiltin, aun, AV.cells, AV.one, Nat.reduceAdd, Int.reduceLT, Int.reduceLE, ↓WD, W0, evalOp, Nat.reduceEqDiff, Nat.reduceLT, ↓reduceIte, reduceCtorEq, hl, e0]
    exact ⟨rfl, (by simp only [List.length_set, hl]), (by simp only [W0, Nat.reduceEqDiff, Nat.reduceLT, ↓reduceIte, hl, e0]), (by simp only [W0, Nat.reduceEqDiff, Nat.reduceLT, ↓reduceIte, hl, e0])⟩) ?_
  rintro envg2 _ ⟨rfl, hl, e0, e4⟩
  try simp only [↓WD, W0, evalOp, Nat.reduceEqDiff, Nat.reduceLT, ↓reduceIte, reduceCtorEq, hl, e0, e4]
  refine CondK_dec (fun c13 => ?_) (fun c13 => ?_)
  · rw [if_pos c13] at hF
    try simp only [↓WD, W0, evalOp, Nat.reduceEqDiff, Nat.reduceLT, ↓reduceIte, reduceCtorEq, hl, e0, e4]
    rw [AW_region]
    have oc14 := fun g : AH => aconv_int (P := Tryd.prog) (h := g) (n := c) (k' := .i64) Tryd.underlying3 Tryd.underlying5
    obtain ⟨u15, h16, ob17, S18⟩ := Sep.build (P := Tryd.prog) sl_32 S0 [.int .u8 (IntKind.u8.wrap c)] (([IntKind.u8.wrap c] : List Int).map (cellI .u8)) rfl (by simp [cellI]) (by simp)
    have ob17 : abuildSlice Tryd.prog 32 1 [(0, .int .u8 (IntKind.u8.wrap c))] h = some (u15, h16) := ob17
    have S20 : Sep h [] h16 [.row u15 5 1 (([IntKind.u8.wrap c] : List Int).map (cellI .u8))] := S18
    have oc21 := RO.str (P := Tryd.prog) Tryd.underlying32 Tryd.underlying5 Tryd.underlying9 (S20.row_ro (i := 0) rfl)
    refine AE_joinR (fun e h' => h16 = h' ∧ e.length = 19 ∧ e.getD 2 .undef = .str [byt (IntKind.u8.wrap c)]) (by
      simp only [↓WE, WA, WL, aop, ofValue, ofCell, isConst, abin, acall1, abuiltin, aun, AV.cells, AV.one, Nat.reduceAdd, Int.reduceLT, Int.reduceLE, ↓WD, W0, evalOp, Nat.reduceEqDiff, Nat.reduceLT, ↓reduceIte, reduceCtorEq, hl, e0, e4, oc14, ob17, oc21]
      exact ⟨rfl, (by simp only [List.length_set, hl]), (by simp only [W0, Nat.reduceEqDiff, Nat.reduceLT, ↓reduceIte, hl, e0, e4])⟩) ?_
    rintro envg22 _ ⟨rfl, hl, e2⟩
    try simp only [↓WD, W0, evalOp, Nat.reduceEqDiff, Nat.reduceLT, ↓reduceIte, reduceCtorEq, hl, e2]
    refine KP_ret (vs := [.str [byt (IntKind.u8.wrap c)]]) (by simp only [aresults, aresult, gs, List.length_set, Nat.reduceEqDiff, Nat.reduceLT, ↓reduceIte, hl, e2]) ?_
    obtain rfl := Option.some.inj hF
    exact rfl
  · rw [if_neg c13] at hF
    try simp only [↓WD, W0, evalOp, Nat.reduceEqDiff, Nat.reduceLT, ↓reduceIte, reduceCtorEq, hl, e0, e4]
    rw [AW_region]
    obtain ⟨y23, qy23, hF⟩ := obind hF
    have oy23 := quo_int (k := .i64) qy23
    have oc24 := fun g : AH => aconv_int (P := Tryd.prog) (h := g) (n := IntKind.i64.wrap (192 + y23)) (k' := .i64) Tryd.underlying3 Tryd.underlying5
    obtain ⟨y25, qy25, hF⟩ := obind hF
    have oy25 := rem_int (k := .i64) qy25
    have oc26 := fun g : AH => aconv_int (P := Tryd.prog) (h := g) (n := IntKind.i64.wrap (128 + y25)) (k' := .i64) Tryd.underlying3 Tryd.underlying5
    obtain ⟨u27, h28, ob29, S30⟩ := Sep.build (P := Tryd.prog) sl_32 S0 [.int .u8 (IntKind.u8.wrap (IntKind.i64.wrap (192 + y23))), .int .u8 (IntKind.u8.wrap (IntKind.i64.wrap (128 + y25)))] (([IntKind.u8.wrap (IntKind.i64.wrap (192 + y23)), IntKind.u8.wrap (IntKind.i64.wrap (128 + y25))] : List Int).map (cellI .u8)) rfl (by simp [cellI]) (by simp)
    have ob29 : abuildSlice Tryd.prog 32 2 [(0, .int .u8 (IntKind.u8.wrap (IntKind.i64.wrap (192 + y23)))), (1, .int .u8 (IntKind.u8.wrap (IntKind.i64.wrap (128 + y25))))] h = some (u27, h28) := ob29
    have S32 : Sep h [] h28 [.row u27 5 1 (([IntKind.u8.wrap (IntKind.i64.wrap (192 + y23)), IntKind.u8.wrap (IntKind.i64.wrap (128 + y25))] : List Int).map (cellI .u8))] := S30
    have oc33 := RO.str (P := Tryd.prog) Tryd.underlying32 Tryd.underlying5 Tryd.underlying9 (S32.row_ro (i := 0) rfl)
    refine AE_joinR (fun e h' => h28 = h' ∧ e.length = 19 ∧ e.getD 2 .undef = .str [byt (IntKind.u8.wrap (IntKind.i64.wrap (192 + y23))), byt (IntKind.u8.wrap (IntKind.i64.wrap (128 + y25)))]) (by
      simp only [↓WE, WA, WL, aop, ofValue, ofCell, isConst, abin, acall1, abuiltin, aun, AV.cells, AV.one, Nat.reduceAdd, Int.reduceLT, Int.reduceLE, ↓WD, W0, evalOp, Nat.reduceEqDiff, Nat.reduceLT, ↓reduceIte, reduceCtorEq, hl, e0, e4, oy23, oc24, oy25, oc26, ob29, oc33]
      exact ⟨rfl, (by simp only [List.length_set, hl]), (by simp only [W0, Nat.reduceEqDiff, Nat.reduceLT, ↓reduceIte, hl, e0, e4])⟩) ?_
    rintro envg34 _ ⟨rfl, hl, e2⟩
    try simp only [↓WD, W0, evalOp, Nat.reduceEqDiff, Nat.reduceLT, ↓reduceIte, reduceCtorEq, hl, e2]
    refine KP_ret (vs := [.str [byt (IntKind.u8.wrap (IntKind.i64.wrap (192 + y23))), byt (IntKind.u8.wrap (IntKind.i64.wrap (128 + y25)))]]) (by simp only [aresults, aresult, gs, List.length_set, Nat.reduceEqDiff, Nat.reduceLT, ↓reduceIte, hl, e2]) ?_
    obtain rfl := Option.some.inj hF
    exact rfl
end Go.Proofs.YtikkpmmhejjpaaaDoorM
