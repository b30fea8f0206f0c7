/- The abstract machine computes what the plain functions say: printed by lift.py. -/
import Derived.Test.YtobhmahlenjheaaDGW0
import Derived.KernelRfl
set_option linter.unusedSimpArgs false
set_option linter.unusedVariables false
namespace Go.Proofs.YtobhmahlenjheaaM
open Go Go.RowKit
set_option maxHeartbeats 4000000
set_option maxRecDepth 100000
theorem W_ref04_padded {K : PureK} (n59 : K 59 = none) (m : Nat) (hm : NF + 1 ≤ m) (h : AH) (s_ : List UInt8) {r : (List UInt8)} (hF : F_ref04_padded s_ = some r) :
    AR (acall Try.prog (hooksOf K) (drawnOf Try.prog (tabOf K)) m 59 [.str s_] h) (fun v h' => v = .str r) := by
  obtain ⟨m, rfl⟩ : ∃ k, m = k + 1 := ⟨m - 1, by omega⟩
  refine AR_call (hooksOf_none n59) Try.func59 rfl _ _ fun env hl he => ?_
  have e0 := he 0
  simp only [List.getD_cons_zero, List.getD_cons_succ] at e0
  simp only [Try.f59] at hl ⊢
  simp only [List.length_cons, List.length_nil, Nat.reduceAdd, Nat.reduceSub] at hl
  clear he
  have S0 : Sep h [] h [] := Sep.nil h
  rw [F_ref04_padded] at hF
  try simp only [↓WD, W0, evalOp, Nat.reduceEqDiff, Nat.reduceLT, ↓reduceIte, reduceCtorEq, hl, e0]
  rw [AW_region]
  refine AE_joinR (fun e h' => h = h' ∧ e.length = 35 ∧ e.getD 0 .undef = .str s_) (by
    simp only [↓WE, WA, WL, aop, ofValue, ofCell, isConst, abin, acall1, abuiltin, aun, AV.cells, AV.one, Nat.reduceAdd, Int.reduceLT, Int.reduceLE, ↓WD, W0, evalOp, Nat.reduceEqDiff, Nat.reduceLT, ↓reduceIte, reduceCtorEq, hl, e0]
    refine ⟨rfl, ?_, ?_⟩ <;> simp only [List.length_set, W0, Nat.reduceEqDiff, Nat.reduceLT, ↓reduceIte, hl, e0]) ?_
  rintro envg1 _ ⟨rfl, hl, e0⟩
  try simp only [↓WD, W0, evalOp, Nat.reduceEqDiff, Nat.reduceLT, ↓reduceIte, reduceCtorEq, hl, e0]
  rw [AW_region]
  have ol2 := fun g : AH => alen_str (P := Try.prog) (h := g) (l := s_) Try.underlying9
  have oc3 := fun g : AH => aconv_int (P := Try.prog) (h := g) (n := (s_.length : Int)) (k' := .i64) Try.underlying3 Try.underlying24
  refine AE_joinR (fun e h' => h = h' ∧ e.length = 35 ∧ e.getD 0 .undef = .str s_ ∧ e.getD 3 .undef = .int .u64 (IntKind.u64.wrap ((IntKind.u64.wrap (s_.length : Int)) * 8))) (by
    simp only [↓WE, WA, WL, aop, ofValue, ofCell, isConst, abin, acall1, abuiltin, aun, AV.cells, AV.one, Nat.reduceAdd, Int.reduceLT, Int.reduceLE, ↓WD, W0, evalOp, Nat.reduceEqDiff, Nat.reduceLT, ↓reduceIte, reduceCtorEq, hl, e0, ol2, oc3]
    refine ⟨rfl, ?_, ?_, ?_⟩ <;> simp only [List.length_set, W0, Nat.reduceEqDiff, Nat.reduceLT, ↓reduceIte, hl, e0]) ?_
  rintro envg4 _ ⟨rfl, hl, e0, e3⟩
  try simp only [↓WD, W0, evalOp, Nat.reduceEqDiff, Nat.reduceLT, ↓reduceIte, reduceCtorEq, hl, e0, e3]
  rw [AW_region]
  obtain ⟨s5, qs5, hF⟩ := obind hF
  have os5 := cat_str qs5
  refine AE_joinR (fun e h' => h = h' ∧ e.length = 35 ∧ e.getD 0 .undef = .str s5 ∧ e.getD 3 .undef = .int .u64 (IntKind.u64.wrap ((IntKind.u64.wrap (s_.length : Int)) * 8))) (by
    simp only [↓WE, WA, WL, aop, ofValue, ofCell, isConst, abin, acall1, abuiltin, aun, AV.cells, AV.one, Nat.reduceAdd, Int.reduceLT, Int.reduceLE, ↓WD, W0, evalOp, Nat.reduceEqDiff, Nat.reduceLT, ↓reduceIte, reduceCtorEq, hl, e0, e3, os5]
    refine ⟨rfl, ?_, ?_, ?_⟩ <;> simp only [List.length_set, W0, Nat.reduceEqDiff, Nat.reduceLT, ↓reduceIte, hl, e0, e3]) ?_
  rintro envg6 _ ⟨rfl, hl, e0, e3⟩
  try simp only [↓WD, W0, evalOp, Nat.reduceEqDiff, Nat.reduceLT, ↓reduceIte, reduceCtorEq, hl, e0, e3]
  obtain ⟨r25, qr25, hF⟩ := obind hF
  refine AW_lift (L_ref04_padded_1) (fun s e h' => e.length = 35 ∧ e.getD 0 .undef = .str s ∧ e.getD 3 .undef = .int .u64 (IntKind.u64.wrap ((IntKind.u64.wrap (s_.length : Int)) * 8)) ∧ Sep h [] h' []) (fun r25 x e h' => x = .exit 0 ∧ e.length = 35 ∧ e.getD 0 .undef = .str r25 ∧ e.getD 3 .undef = .int .u64 (IntKind.u64.wrap ((IntKind.u64.wrap (s_.length : Int)) * 8)) ∧ Sep h [] h' []) qr25 (by omega) ?_ ?_ ?_
  · rintro s envr25 h16 or25 ⟨hl, e0, e3, S17⟩ wr25
    rw [L_ref04_padded_1] at wr25
    try simp only [↓WD, W0, evalOp, Nat.reduceEqDiff, Nat.reduceLT, ↓reduceIte, reduceCtorEq, hl, e0, e3]
    rw [AW_region]
    have ol18 := fun g : AH => alen_str (P := Try.prog) (h := g) (l := s) Try.underlying9
    obtain ⟨y19, qy19, wr25⟩ := obind wr25
    have oy19 := rem_int (k := .i64) qy19
    refine AE_joinR (fun e h' => h16 = h' ∧ e.length = 35 ∧ e.getD 0 .undef = .str s ∧ e.getD 3 .undef = .int .u64 (IntKind.u64.wrap ((IntKind.u64.wrap (s_.length : Int)) * 8)) ∧ e.getD 15 .undef = .bool (y19 != 56)) (by
      simp only [↓WE, WA, WL, aop, ofValue, ofCell, isConst, abin, acall1, abuiltin, aun, AV.cells, AV.one, Nat.reduceAdd, Int.reduceLT, Int.reduceLE, ↓WD, W0, evalOp, Nat.reduceEqDiff, Nat.reduceLT, ↓reduceIte, reduceCtorEq, hl, e0, e3, ol18, oy19]
      refine ⟨rfl, ?_, ?_, ?_, ?_⟩ <;> simp only [List.length_set, W0, Nat.reduceEqDiff, Nat.reduceLT, ↓reduceIte, hl, e0, e3]) ?_
    rintro envg20 _ ⟨rfl, hl, e0, e3, e15⟩
    try simp only [↓WD, W0, evalOp, Nat.reduceEqDiff, Nat.reduceLT, ↓reduceIte, reduceCtorEq, hl, e0, e3, e15]
    refine CondK_boo (fun c22 => ?_) (fun c22 => ?_)
    · rw [if_pos c22] at wr25
      try simp only [↓WD, W0, evalOp, Nat.reduceEqDiff, Nat.reduceLT, ↓reduceIte, reduceCtorEq, hl, e0, e3, e15]
      rw [AW_region]
      obtain ⟨s23, qs23, wr25⟩ := obind wr25
      have os23 := cat_str qs23
      refine AE_joinR (fun e h' => h16 = h' ∧ e.length = 35 ∧ e.getD 0 .undef = .str s23 ∧ e.getD 3 .undef = .int .u64 (IntKind.u64.wrap ((IntKind.u64.wrap (s_.length : Int)) * 8))) (by
        simp only [↓WE, WA, WL, aop, ofValue, ofCell, isConst, abin, acall1, abuiltin, aun, AV.cells, AV.one, Nat.reduceAdd, Int.reduceLT, Int.reduceLE, ↓WD, W0, evalOp, Nat.reduceEqDiff, Nat.reduceLT, ↓reduceIte, reduceCtorEq, hl, e0, e3, e15, os23]
        refine ⟨rfl, ?_, ?_, ?_⟩ <;> simp only [List.length_set, W0, Nat.reduceEqDiff, Nat.reduceLT, ↓reduceIte, hl, e0, e3, e15]) ?_
      rintro envg24 _ ⟨rfl, hl, e0, e3⟩
      try simp only [↓WD, W0, evalOp, Nat.reduceEqDiff, Nat.reduceLT, ↓reduceIte, reduceCtorEq, hl, e0, e3]
      obtain rfl := Option.some.inj wr25
      rw [KP_nil, QL_normal]
      refine ⟨_, rfl, ?_, ?_, ?_, S17⟩ <;> simp only [List.length_set, W0, Nat.reduceEqDiff, Nat.reduceLT, ↓reduceIte, hl, e0, e3]
    · rw [if_neg (nf c22)] at wr25
      try simp only [↓WD, W0, evalOp, Nat.reduceEqDiff, Nat.reduceLT, ↓reduceIte, reduceCtorEq, hl, e0, e3, e15]
      obtain rfl := Option.some.inj wr25
      rw [KP_nil, QL_exit]
      refine ⟨_, rfl, rfl, ?_, ?_, ?_, S17⟩ <;> simp only [List.length_set, W0, Nat.reduceEqDiff, Nat.reduceLT, ↓reduceIte, hl, e0, e3, e15]
  · refine ⟨?_, ?_, ?_, S0⟩ <;> simp only [List.length_set, W0, Nat.reduceEqDiff, Nat.reduceLT, ↓reduceIte, hl, e0, e3]
  · rintro x envr25 h26 ⟨rfl, hl, e0, e3, S27⟩
    try simp only [↓WD, W0, evalOp, Nat.reduceEqDiff, Nat.reduceLT, ↓reduceIte, reduceCtorEq, hl, e0, e3]
    rw [AW_region]
    obtain ⟨zs28, qzs28, hF⟩ := obind hF
    obtain ⟨u29, h30, om31, S32⟩ := Sep.make (P := Try.prog) sl_28 (f := (cellI .u8)) (by rw [zero_5]; rfl) S27 qzs28 .i64 .i64
    have S34 : Sep h [] h30 [.row u29 5 1 (zs28.map (cellI .u8))] := S32
    refine AE_joinR (fun e h' => h30 = h' ∧ e.length = 35 ∧ e.getD 0 .undef = .str r25 ∧ e.getD 3 .undef = .int .u64 (IntKind.u64.wrap ((IntKind.u64.wrap (s_.length : Int)) * 8)) ∧ e.getD 4 .undef = u29) (by
      simp only [↓WE, WA, WL, aop, ofValue, ofCell, isConst, abin, acall1, abuiltin, aun, AV.cells, AV.one, Nat.reduceAdd, Int.reduceLT, Int.reduceLE, ↓WD, W0, evalOp, Nat.reduceEqDiff, Nat.reduceLT, ↓reduceIte, reduceCtorEq, hl, e0, e3, om31]
      refine ⟨rfl, ?_, ?_, ?_, ?_⟩ <;> simp only [List.length_set, W0, Nat.reduceEqDiff, Nat.reduceLT, ↓reduceIte, hl, e0, e3]) ?_
    rintro envg35 _ ⟨rfl, hl, e0, e3, e4⟩
    try simp only [↓WD, W0, evalOp, Nat.reduceEqDiff, Nat.reduceLT, ↓reduceIte, reduceCtorEq, hl, e0, e3, e4]
    rw [AW_region]
    refine AE_joinR (fun e h' => h30 = h' ∧ e.length = 35 ∧ e.getD 0 .undef = .str r25 ∧ e.getD 3 .undef = .int .u64 (IntKind.u64.wrap ((IntKind.u64.wrap (s_.length : Int)) * 8)) ∧ e.getD 4 .undef = u29 ∧ e.getD 5 .undef = .int .i64 7) (by
      simp only [↓WE, WA, WL, aop, ofValue, ofCell, isConst, abin, acall1, abuiltin, aun, AV.cells, AV.one, Nat.reduceAdd, Int.reduceLT, Int.reduceLE, ↓WD, W0, evalOp, Nat.reduceEqDiff, Nat.reduceLT, ↓reduceIte, reduceCtorEq, hl, e0, e3, e4]
      refine ⟨rfl, ?_, ?_, ?_, ?_, ?_⟩ <;> simp only [List.length_set, W0, Nat.reduceEqDiff, Nat.reduceLT, ↓reduceIte, hl, e0, e3, e4]) ?_
    rintro envg36 _ ⟨rfl, hl, e0, e3, e4, e5⟩
    try simp only [↓WD, W0, evalOp, Nat.reduceEqDiff, Nat.reduceLT, ↓reduceIte, reduceCtorEq, hl, e0, e3, e4, e5]
    obtain ⟨r79, qr79, hF⟩ := obind hF
    refine AW_lift (L_ref04_padded_2) (fun s e h' => e.length = 35 ∧ e.getD 0 .undef = .str r25 ∧ e.getD 3 .undef = .int .u64 s.1 ∧ e.getD 4 .undef = u29 ∧ e.getD 5 .undef = .int .i64 s.2.2 ∧ Sep h [] h' [.row u29 5 1 (s.2.1.map (cellI .u8))]) (fun r79 x e h' => x = .exit 2 ∧ e.length = 35 ∧ e.getD 0 .undef = .str r25 ∧ e.getD 4 .undef = u29 ∧ Sep h [] h' [.row u29 5 1 (r79.map (cellI .u8))]) qr79 (by omega) ?_ ?_ ?_
    · rintro s envr79 h58 or79 ⟨hl, e0, e3, e4, e5, S59⟩ wr79
      rw [L_ref04_padded_2] at wr79
      try simp only [↓WD, W0, evalOp, Nat.reduceEqDiff, Nat.reduceLT, ↓reduceIte, reduceCtorEq, hl, e0, e3, e4, e5]
      rw [AW_region]
      refine AE_joinR (fun e h' => h58 = h' ∧ e.length = 35 ∧ e.getD 0 .undef = .str r25 ∧ e.getD 3 .undef = .int .u64 s.1 ∧ e.getD 4 .undef = u29 ∧ e.getD 5 .undef = .int .i64 s.2.2 ∧ e.getD 20 .undef = .bool (decide (s.2.2 ≥ 0))) (by
        simp only [↓WE, WA, WL, aop, ofValue, ofCell, isConst, abin, acall1, abuiltin, aun, AV.cells, AV.one, Nat.reduceAdd, Int.reduceLT, Int.reduceLE, ↓WD, W0, evalOp, Nat.reduceEqDiff, Nat.reduceLT, ↓reduceIte, reduceCtorEq, hl, e0, e3, e4, e5]
        refine ⟨rfl, ?_, ?_, ?_, ?_, ?_, ?_⟩ <;> simp only [List.length_set, W0, Nat.reduceEqDiff, Nat.reduceLT, ↓reduceIte, hl, e0, e3, e4, e5]) ?_
      rintro envg60 _ ⟨rfl, hl, e0, e3, e4, e5, e20⟩
      try simp only [↓WD, W0, evalOp, Nat.reduceEqDiff, Nat.reduceLT, ↓reduceIte, reduceCtorEq, hl, e0, e3, e4, e5, e20]
      refine CondK_dec (fun c62 => ?_) (fun c62 => ?_)
      · rw [if_pos c62] at wr79
        try simp only [↓WD, W0, evalOp, Nat.reduceEqDiff, Nat.reduceLT, ↓reduceIte, reduceCtorEq, hl, e0, e3, e4, e5, e20]
        rw [AW_region]
        obtain ⟨y63, qy63, wr79⟩ := obind wr79
        have oy63 := rem_int (k := .u64) qy63
        have oc64 := fun g : AH => aconv_int (P := Try.prog) (h := g) (n := y63) (k' := .u64) Try.underlying24 Try.underlying5
        obtain ⟨x65, qx65, wr79⟩ := obind wr79
        obtain ⟨i66, off67, oi68, hp69⟩ := RO.addr (P := Try.prog) sl_28 (S59.row_ro (i := 0) rfl) qx65
        obtain ⟨y73, qy73, wr79⟩ := obind wr79
        obtain ⟨h70, os71, S72⟩ := S59.rstore (P := Try.prog) 0 rfl hp69 (x := x65) (z := IntKind.u8.wrap y63) (by first | exact qx65 | (simp only [idxL] at *; assumption)) (t := 5) (o := 0) (v := .int .u8 (IntKind.u8.wrap y63)) rfl sz_5 rfl (by simp) rfl qy73
        simp only [Nat.add_zero] at os71
        have S74 : Sep h [] h70 [.row u29 5 1 (y73.map (cellI .u8))] := S72
        refine AE_joinR (fun e h' => h70 = h' ∧ e.length = 35 ∧ e.getD 0 .undef = .str r25 ∧ e.getD 3 .undef = .int .u64 s.1 ∧ e.getD 4 .undef = u29 ∧ e.getD 5 .undef = .int .i64 s.2.2) (by
          simp only [↓WE, WA, WL, aop, ofValue, ofCell, isConst, abin, acall1, abuiltin, aun, AV.cells, AV.one, Nat.reduceAdd, Int.reduceLT, Int.reduceLE, ↓WD, W0, evalOp, Nat.reduceEqDiff, Nat.reduceLT, ↓reduceIte, reduceCtorEq, hl, e0, e3, e4, e5, e20, oy63, oc64, oi68, os71]
          refine ⟨rfl, ?_, ?_, ?_, ?_, ?_⟩ <;> simp only [List.length_set, W0, Nat.reduceEqDiff, Nat.reduceLT, ↓reduceIte, hl, e0, e3, e4, e5, e20]) ?_
        rintro envg75 _ ⟨rfl, hl, e0, e3, e4, e5⟩
        try simp only [↓WD, W0, evalOp, Nat.reduceEqDiff, Nat.reduceLT, ↓reduceIte, reduceCtorEq, hl, e0, e3, e4, e5]
        rw [AW_region]
        obtain ⟨y76, qy76, wr79⟩ := obind wr79
        have oy76 := quo_int (k := .u64) qy76
        refine AE_joinR (fun e h' => h70 = h' ∧ e.length = 35 ∧ e.getD 0 .undef = .str r25 ∧ e.getD 3 .undef = .int .u64 y76 ∧ e.getD 4 .undef = u29 ∧ e.getD 5 .undef = .int .i64 s.2.2) (by
          simp only [↓WE, WA, WL, aop, ofValue, ofCell, isConst, abin, acall1, abuiltin, aun, AV.cells, AV.one, Nat.reduceAdd, Int.reduceLT, Int.reduceLE, ↓WD, W0, evalOp, Nat.reduceEqDiff, Nat.reduceLT, ↓reduceIte, reduceCtorEq, hl, e0, e3, e4, e5, oy76]
          refine ⟨rfl, ?_, ?_, ?_, ?_, ?_⟩ <;> simp only [List.length_set, W0, Nat.reduceEqDiff, Nat.reduceLT, ↓reduceIte, hl, e0, e3, e4, e5]) ?_
        rintro envg77 _ ⟨rfl, hl, e0, e3, e4, e5⟩
        try simp only [↓WD, W0, evalOp, Nat.reduceEqDiff, Nat.reduceLT, ↓reduceIte, reduceCtorEq, hl, e0, e3, e4, e5]
        rw [AW_region]
        refine AE_joinR (fun e h' => h70 = h' ∧ e.length = 35 ∧ e.getD 0 .undef = .str r25 ∧ e.getD 3 .undef = .int .u64 y76 ∧ e.getD 4 .undef = u29 ∧ e.getD 5 .undef = .int .i64 (IntKind.i64.wrap (s.2.2 - 1))) (by
          simp only [↓WE, WA, WL, aop, ofValue, ofCell, isConst, abin, acall1, abuiltin, aun, AV.cells, AV.one, Nat.reduceAdd, Int.reduceLT, Int.reduceLE, ↓WD, W0, evalOp, Nat.reduceEqDiff, Nat.reduceLT, ↓reduceIte, reduceCtorEq, hl, e0, e3, e4, e5]
          refine ⟨rfl, ?_, ?_, ?_, ?_, ?_⟩ <;> simp only [List.length_set, W0, Nat.reduceEqDiff, Nat.reduceLT, ↓reduceIte, hl, e0, e3, e4, e5]) ?_
        rintro envg78 _ ⟨rfl, hl, e0, e3, e4, e5⟩
        try simp only [↓WD, W0, evalOp, Nat.reduceEqDiff, Nat.reduceLT, ↓reduceIte, reduceCtorEq, hl, e0, e3, e4, e5]
        obtain rfl := Option.some.inj wr79
        rw [KP_nil, QL_normal]
        refine ⟨_, rfl, ?_, ?_, ?_, ?_, ?_, S74⟩ <;> simp only [List.length_set, W0, Nat.reduceEqDiff, Nat.reduceLT, ↓reduceIte, hl, e0, e3, e4, e5]
      · rw [if_neg c62] at wr79
        try simp only [↓WD, W0, evalOp, Nat.reduceEqDiff, Nat.reduceLT, ↓reduceIte, reduceCtorEq, hl, e0, e3, e4, e5, e20]
        obtain rfl := Option.some.inj wr79
        rw [KP_nil, QL_exit]
        refine ⟨_, rfl, rfl, ?_, ?_, ?_, S59⟩ <;> simp only [List.length_set, W0, Nat.reduceEqDiff, Nat.reduceLT, ↓reduceIte, hl, e0, e3, e4, e5, e20]
    · refine ⟨?_, ?_, ?_, ?_, ?_, S34⟩ <;> simp only [List.length_set, W0, Nat.reduceEqDiff, Nat.reduceLT, ↓reduceIte, hl, e0, e3, e4, e5]
    · rintro x envr79 h80 ⟨rfl, hl, e0, e4, S81⟩
      try simp only [↓WD, W0, evalOp, Nat.reduceEqDiff, Nat.reduceLT, ↓reduceIte, reduceCtorEq, hl, e0, e4]
      rw [AW_region]
      have oc82 := RO.str (P := Try.prog) Try.underlying28 Try.underlying5 Try.underlying9 (S81.row_ro (i := 0) rfl)
      obtain ⟨s83, qs83, hF⟩ := obind hF
      have os83 := cat_str qs83
      refine AE_joinR (fun e h' => h80 = h' ∧ e.length = 35 ∧ e.getD 2 .undef = .str s83) (by
        simp only [↓WE, WA, WL, aop, ofValue, ofCell, isConst, abin, acall1, abuiltin, aun, AV.cells, AV.one, Nat.reduceAdd, Int.reduceLT, Int.reduceLE, ↓WD, W0, evalOp, Nat.reduceEqDiff, Nat.reduceLT, ↓reduceIte, reduceCtorEq, hl, e0, e4, oc82, os83]
        refine ⟨rfl, ?_, ?_⟩ <;> simp only [List.length_set, W0, Nat.reduceEqDiff, Nat.reduceLT, ↓reduceIte, hl, e0, e4]) ?_
      rintro envg84 _ ⟨rfl, hl, e2⟩
      try simp only [↓WD, W0, evalOp, Nat.reduceEqDiff, Nat.reduceLT, ↓reduceIte, reduceCtorEq, hl, e2]
      refine KP_ret (vs := [.str s83]) (by simp only [aresults, aresult, gs, List.length_set, Nat.reduceEqDiff, Nat.reduceLT, ↓reduceIte, hl, e2]) ?_
      obtain rfl := Option.some.inj hF
      exact rfl
theorem W_ref04_right {K : PureK} (n61 : K 61 = none) (m : Nat) (hm : NF + 1 ≤ m) (h : AH) (a : Int) (n_ : Int) {r : Int} (hF : F_ref04_right a n_ = some r) :
    AR (acall Try.prog (hooksOf K) (drawnOf Try.prog (tabOf K)) m 61 [.int .u32 a, .int .i64 n_] h) (fun v h' => v = .int .u32 r) := by
  obtain ⟨m, rfl⟩ : ∃ k, m = k + 1 := ⟨m - 1, by omega⟩
  refine AR_call (hooksOf_none n61) Try.func61 rfl _ _ fun env hl he => ?_
  have e0 := he 0
  have e1 := he 1
  simp only [List.getD_cons_zero, List.getD_cons_succ] at e0 e1
  simp only [Try.f61] at hl ⊢
  simp only [List.length_cons, List.length_nil, Nat.reduceAdd, Nat.reduceSub] at hl
  clear he
  have S0 : Sep h [] h [] := Sep.nil h
  rw [F_ref04_right] at hF
  try simp only [↓WD, W0, evalOp, Nat.reduceEqDiff, Nat.reduceLT, ↓reduceIte, reduceCtorEq, hl, e0, e1]
  rw [AW_region]
  refine AE_joinR (fun e h' => h = h' ∧ e.length = 13 ∧ e.getD 0 .undef = .int .u32 a ∧ e.getD 1 .undef = .int .i64 n_) (by
    simp only [↓WE, WA, WL, aop, ofValue, ofCell, isConst, abin, acall1, abuiltin, aun, AV.cells, AV.one, Nat.reduceAdd, Int.reduceLT, Int.reduceLE, ↓WD, W0, evalOp, Nat.reduceEqDiff, Nat.reduceLT, ↓reduceIte, reduceCtorEq, hl, e0, e1]
    refine ⟨rfl, ?_, ?_, ?_⟩ <;> simp only [List.length_set, W0, Nat.reduceEqDiff, Nat.reduceLT, ↓reduceIte, hl, e0, e1]) ?_
  rintro envg1 _ ⟨rfl, hl, e0, e1⟩
  try simp only [↓WD, W0, evalOp, Nat.reduceEqDiff, Nat.reduceLT, ↓reduceIte, reduceCtorEq, hl, e0, e1]
  rw [AW_drawn, AE_drawnK Ksub.nil (by kernel_rfl)]
  obtain ⟨y2, qy2, hF⟩ := obind hF
  have oy2 := shr_int (k := .u32) qy2
  obtain ⟨y3, qy3, hF⟩ := obind hF
  have oy3 := shl_int (k := .u32) qy3
  refine AE_joinR (fun e h' => h = h' ∧ e.length = 13 ∧ e.getD 4 .undef = .int .u32 (orI .u32 y2 y3)) (by
    simp only [↓WE, WA, WL, aop, ofValue, ofCell, isConst, abin, acall1, abuiltin, aun, AV.cells, AV.one, Nat.reduceAdd, Int.reduceLT, Int.reduceLE, ↓WD, W0, evalOp, Nat.reduceEqDiff, Nat.reduceLT, ↓reduceIte, reduceCtorEq, hl, e0, e1, oy2, oy3]
    refine ⟨rfl, ?_, ?_⟩ <;> simp only [List.length_set, W0, Nat.reduceEqDiff, Nat.reduceLT, ↓reduceIte, hl, e0, e1]) ?_
  rintro envg4 _ ⟨rfl, hl, e4⟩
  try simp only [↓WD, W0, evalOp, Nat.reduceEqDiff, Nat.reduceLT, ↓reduceIte, reduceCtorEq, hl, e4]
  refine KP_ret (vs := [.int .u32 (orI .u32 y2 y3)]) (by simp only [aresults, aresult, gs, List.length_set, Nat.reduceEqDiff, Nat.reduceLT, ↓reduceIte, hl, e4]) ?_
  obtain rfl := Option.some.inj hF
  exact rfl
theorem W_ref04_words {K : PureK} (k61 : K 61 = some kf_61) (n60 : K 60 = none) (m : Nat) (hm : NF + 1 ≤ m) (h : AH) (s_ : List UInt8) {r : (List Int)} (hF : F_ref04_words s_ = some r) :
    AR (acall Try.prog (hooksOf K) (drawnOf Try.prog (tabOf K)) m 60 [.str s_] h) (fun v h' => ∃ w0 : AV, v = w0 ∧ Sep h [] h' [.row w0 85 1 (r.map (cellI .u32))]) := by
  obtain ⟨m, rfl⟩ : ∃ k, m = k + 1 := ⟨m - 1, by omega⟩
  refine AR_call (hooksOf_none n60) Try.func60 rfl _ _ fun env hl he => ?_
  have e0 := he 0
  simp only [List.getD_cons_zero, List.getD_cons_succ] at e0
  simp only [Try.f60] at hl ⊢
  simp only [List.length_cons, List.length_nil, Nat.reduceAdd, Nat.reduceSub] at hl
  clear he
  have S0 : Sep h [] h [] := Sep.nil h
  rw [F_ref04_words] at hF
  try simp only [↓WD, W0, evalOp, Nat.reduceEqDiff, Nat.reduceLT, ↓reduceIte, reduceCtorEq, hl, e0]
  rw [AW_region]
  refine AE_joinR (fun e h' => h = h' ∧ e.length = 87 ∧ e.getD 0 .undef = .str s_) (by
    simp only [↓WE, WA, WL, aop, ofValue, ofCell, isConst, abin, acall1, abuiltin, aun, AV.cells, AV.one, Nat.reduceAdd, Int.reduceLT, Int.reduceLE, ↓WD, W0, evalOp, Nat.reduceEqDiff, Nat.reduceLT, ↓reduceIte, reduceCtorEq, hl, e0]
    refine ⟨rfl, ?_, ?_⟩ <;> simp only [List.length_set, W0, Nat.reduceEqDiff, Nat.reduceLT, ↓reduceIte, hl, e0]) ?_
  rintro envg1 _ ⟨rfl, hl, e0⟩
  try simp only [↓WD, W0, evalOp, Nat.reduceEqDiff, Nat.reduceLT, ↓reduceIte, reduceCtorEq, hl, e0]
  rw [AW_region]
  refine AE_joinR (fun e h' => h = h' ∧ e.length = 87 ∧ e.getD 0 .undef = .str s_ ∧ e.getD 3 .undef = .val (.slice none 0 0)) (by
    simp only [↓WE, WA, WL, aop, ofValue, ofCell, isConst, abin, acall1, abuiltin, aun, AV.cells, AV.one, Nat.reduceAdd, Int.reduceLT, Int.reduceLE, ↓WD, W0, evalOp, Nat.reduceEqDiff, Nat.reduceLT, ↓reduceIte, reduceCtorEq, hl, e0]
    refine ⟨rfl, ?_, ?_, ?_⟩ <;> simp only [List.length_set, W0, Nat.reduceEqDiff, Nat.reduceLT, ↓reduceIte, hl, e0]) ?_
  rintro envg2 _ ⟨rfl, hl, e0, e3⟩
  try simp only [↓WD, W0, evalOp, Nat.reduceEqDiff, Nat.reduceLT, ↓reduceIte, reduceCtorEq, hl, e0, e3]
  rw [AW_region]
  refine AE_joinR (fun e h' => h = h' ∧ e.length = 87 ∧ e.getD 0 .undef = .str s_ ∧ e.getD 3 .undef = .val (.slice none 0 0) ∧ e.getD 4 .undef = .int .i64 0) (by
    simp only [↓WE, WA, WL, aop, ofValue, ofCell, isConst, abin, acall1, abuiltin, aun, AV.cells, AV.one, Nat.reduceAdd, Int.reduceLT, Int.reduceLE, ↓WD, W0, evalOp, Nat.reduceEqDiff, Nat.reduceLT, ↓reduceIte, reduceCtorEq, hl, e0, e3]
    refine ⟨rfl, ?_, ?_, ?_, ?_⟩ <;> simp only [List.length_set, W0, Nat.reduceEqDiff, Nat.reduceLT, ↓reduceIte, hl, e0, e3]) ?_
  rintro envg3 _ ⟨rfl, hl, e0, e3, e4⟩
  try simp only [↓WD, W0, evalOp, Nat.reduceEqDiff, Nat.reduceLT, ↓reduceIte, reduceCtorEq, hl, e0, e3, e4]
  have S37 : Sep h [] h [.row (.val (.slice none 0 0)) 85 1 (([] : List Int).map (cellI .u32))] := S0.nilrow 85 1
  obtain ⟨r74, qr74, hF⟩ := obind hF
  refine AW_lift (L_ref04_words_1 s_) (fun s e h' => ∃ (u41 : AV), e.length = 87 ∧ e.getD 0 .undef = .str s_ ∧ e.getD 3 .undef = u41 ∧ e.getD 4 .undef = .int .i64 s.2 ∧ Sep h [] h' [.row u41 85 1 (s.1.map (cellI .u32))]) (fun r74 x e h' => ∃ (u75 : AV), x = .exit 0 ∧ e.length = 87 ∧ e.getD 3 .undef = u75 ∧ Sep h [] h' [.row u75 85 1 (r74.map (cellI .u32))]) qr74 (by omega) ?_ ?_ ?_
  · rintro s envr74 h42 or74 ⟨u41, hl, e0, e3, e4, S43⟩ wr74
    rw [L_ref04_words_1] at wr74
    try simp only [↓WD, W0, evalOp, Nat.reduceEqDiff, Nat.reduceLT, ↓reduceIte, reduceCtorEq, hl, e0, e3, e4]
    rw [AW_region]
    refine AE_joinR (fun e h' => h42 = h' ∧ e.length = 87 ∧ e.getD 0 .undef = .str s_ ∧ e.getD 3 .undef = u41 ∧ e.getD 4 .undef = .int .i64 s.2 ∧ e.getD 9 .undef = .bool (decide (s.2 < 64))) (by
      simp only [↓WE, WA, WL, aop, ofValue, ofCell, isConst, abin, acall1, abuiltin, aun, AV.cells, AV.one, Nat.reduceAdd, Int.reduceLT, Int.reduceLE, ↓WD, W0, evalOp, Nat.reduceEqDiff, Nat.reduceLT, ↓reduceIte, reduceCtorEq, hl, e0, e3, e4]
      refine ⟨rfl, ?_, ?_, ?_, ?_, ?_⟩ <;> simp only [List.length_set, W0, Nat.reduceEqDiff, Nat.reduceLT, ↓reduceIte, hl, e0, e3, e4]) ?_
    rintro envg44 _ ⟨rfl, hl, e0, e3, e4, e9⟩
    try simp only [↓WD, W0, evalOp, Nat.reduceEqDiff, Nat.reduceLT, ↓reduceIte, reduceCtorEq, hl, e0, e3, e4, e9]
    refine CondK_dec (fun c46 => ?_) (fun c46 => ?_)
    · rw [if_pos c46] at wr74
      try simp only [↓WD, W0, evalOp, Nat.reduceEqDiff, Nat.reduceLT, ↓reduceIte, reduceCtorEq, hl, e0, e3, e4, e9]
      rw [AW_drawn, AE_drawnK (Ksub.cons k61 Ksub.nil) (by kernel_rfl)]
      obtain ⟨c47, qc47, wr74⟩ := obind wr74
      have oc47 := idx_str (P := Try.prog) (k := .i64) Try.underlying9 qc47
      have oc48 := fun g : AH => aconv_int (P := Try.prog) (h := g) (n := c47) (k' := .u8) Try.underlying5 Try.underlying85
      obtain ⟨y49, qy49, wr74⟩ := obind wr74
      have oy49 := shl_int (k := .u32) qy49
      obtain ⟨c50, qc50, wr74⟩ := obind wr74
      have oc50 := idx_str (P := Try.prog) (k := .i64) Try.underlying9 qc50
      have oc51 := fun g : AH => aconv_int (P := Try.prog) (h := g) (n := c50) (k' := .u8) Try.underlying5 Try.underlying85
      obtain ⟨y52, qy52, wr74⟩ := obind wr74
      have oy52 := shl_int (k := .u32) qy52
      obtain ⟨c53, qc53, wr74⟩ := obind wr74
      have oc53 := idx_str (P := Try.prog) (k := .i64) Try.underlying9 qc53
      have oc54 := fun g : AH => aconv_int (P := Try.prog) (h := g) (n := c53) (k' := .u8) Try.underlying5 Try.underlying85
      obtain ⟨y55, qy55, wr74⟩ := obind wr74
      have oy55 := shl_int (k := .u32) qy55
      obtain ⟨c56, qc56, wr74⟩ := obind wr74
      have oc56 := idx_str (P := Try.prog) (k := .i64) Try.underlying9 qc56
      have oc57 := fun g : AH => aconv_int (P := Try.prog) (h := g) (n := c56) (k' := .u8) Try.underlying5 Try.underlying85
      obtain ⟨u58, h59, ob60, S61⟩ := Sep.build (P := Try.prog) sl_82 S43 [.int .u32 (IntKind.u32.wrap ((IntKind.u32.wrap ((IntKind.u32.wrap (y49 + y52)) + y55)) + (IntKind.u32.wrap c56)))] (([IntKind.u32.wrap ((IntKind.u32.wrap ((IntKind.u32.wrap (y49 + y52)) + y55)) + (IntKind.u32.wrap c56))] : List Int).map (cellI .u32)) rfl (by simp [cellI]) (by simp)
      have ob60 : abuildSlice Try.prog 82 1 [(0, .int .u32 (IntKind.u32.wrap ((IntKind.u32.wrap ((IntKind.u32.wrap (y49 + y52)) + y55)) + (IntKind.u32.wrap c56))))] h42 = some (u58, h59) := ob60
      have S63 : Sep h [] h59 [.row u41 85 1 (s.1.map (cellI .u32)), .row u58 85 1 (([IntKind.u32.wrap ((IntKind.u32.wrap ((IntKind.u32.wrap (y49 + y52)) + y55)) + (IntKind.u32.wrap c56))] : List Int).map (cellI .u32))] := S61
      obtain ⟨zs64, qzs64, wr74⟩ := obind wr74
      obtain ⟨u65, h66, op67, S68⟩ := Sep.append (P := Try.prog) (t' := 82) sl_82 (by rw [Try.underlying82]; rfl) S63 0 rfl (S63.row_ro (i := 1) rfl) (fun _ => rfl) qzs64
      have S69 : Sep h [] h66 [.row u65 85 1 (zs64.map (cellI .u32)), .row u58 85 1 (([IntKind.u32.wrap ((IntKind.u32.wrap ((IntKind.u32.wrap (y49 + y52)) + y55)) + (IntKind.u32.wrap c56))] : List Int).map (cellI .u32))] := S68
      refine AE_joinR (fun e h' => h66 = h' ∧ e.length = 87 ∧ e.getD 0 .undef = .str s_ ∧ e.getD 3 .undef = u65 ∧ e.getD 4 .undef = .int .i64 s.2) (by
        simp only [↓WE, WA, WL, aop, ofValue, ofCell, isConst, abin, acall1, abuiltin, aun, AV.cells, AV.one, Nat.reduceAdd, Int.reduceLT, Int.reduceLE, ↓WD, W0, evalOp, Nat.reduceEqDiff, Nat.reduceLT, ↓reduceIte, reduceCtorEq, hl, e0, e3, e4, e9, oc47, oc48, oy49, oc50, oc51, oy52, oc53, oc54, oy55, oc56, oc57, ob60, op67]
        refine ⟨rfl, ?_, ?_, ?_, ?_⟩ <;> simp only [List.length_set, W0, Nat.reduceEqDiff, Nat.reduceLT, ↓reduceIte, hl, e0, e3, e4, e9]) ?_
      rintro envg70 _ ⟨rfl, hl, e0, e3, e4⟩
      try simp only [↓WD, W0, evalOp, Nat.reduceEqDiff, Nat.reduceLT, ↓reduceIte, reduceCtorEq, hl, e0, e3, e4]
      rw [AW_region]
      refine AE_joinR (fun e h' => h66 = h' ∧ e.length = 87 ∧ e.getD 0 .undef = .str s_ ∧ e.getD 3 .undef = u65 ∧ e.getD 4 .undef = .int .i64 (IntKind.i64.wrap (s.2 + 4))) (by
        simp only [↓WE, WA, WL, aop, ofValue, ofCell, isConst, abin, acall1, abuiltin, aun, AV.cells, AV.one, Nat.reduceAdd, Int.reduceLT, Int.reduceLE, ↓WD, W0, evalOp, Nat.reduceEqDiff, Nat.reduceLT, ↓reduceIte, reduceCtorEq, hl, e0, e3, e4]
        refine ⟨rfl, ?_, ?_, ?_, ?_⟩ <;> simp only [List.length_set, W0, Nat.reduceEqDiff, Nat.reduceLT, ↓reduceIte, hl, e0, e3, e4]) ?_
      rintro envg71 _ ⟨rfl, hl, e0, e3, e4⟩
      try simp only [↓WD, W0, evalOp, Nat.reduceEqDiff, Nat.reduceLT, ↓reduceIte, reduceCtorEq, hl, e0, e3, e4]
      obtain rfl := Option.some.inj wr74
      rw [KP_nil, QL_normal]
      refine ⟨_, rfl, u65, ?_, ?_, ?_, ?_, S69.pick [0] (by decide) rfl⟩ <;> simp only [List.length_set, W0, Nat.reduceEqDiff, Nat.reduceLT, ↓reduceIte, hl, e0, e3, e4]
    · rw [if_neg c46] at wr74
      try simp only [↓WD, W0, evalOp, Nat.reduceEqDiff, Nat.reduceLT, ↓reduceIte, reduceCtorEq, hl, e0, e3, e4, e9]
      obtain rfl := Option.some.inj wr74
      rw [KP_nil, QL_exit]
      refine ⟨_, rfl, u41, rfl, ?_, ?_, S43⟩ <;> simp only [List.length_set, W0, Nat.reduceEqDiff, Nat.reduceLT, ↓reduceIte, hl, e0, e3, e4, e9]
  · refine ⟨.val (.slice none 0 0), ?_, ?_, ?_, ?_, S37⟩ <;> simp only [List.length_set, W0, Nat.reduceEqDiff, Nat.reduceLT, ↓reduceIte, hl, e0, e3, e4]
  · rintro x envr74 h76 ⟨u75, rfl, hl, e3, S77⟩
    try simp only [↓WD, W0, evalOp, Nat.reduceEqDiff, Nat.reduceLT, ↓reduceIte, reduceCtorEq, hl, e3]
    rw [AW_region]
    refine AE_joinR (fun e h' => h76 = h' ∧ e.length = 87 ∧ e.getD 3 .undef = u75 ∧ e.getD 5 .undef = .int .i64 16) (by
      simp only [↓WE, WA, WL, aop, ofValue, ofCell, isConst, abin, acall1, abuiltin, aun, AV.cells, AV.one, Nat.reduceAdd, Int.reduceLT, Int.reduceLE, ↓WD, W0, evalOp, Nat.reduceEqDiff, Nat.reduceLT, ↓reduceIte, reduceCtorEq, hl, e3]
      refine ⟨rfl, ?_, ?_, ?_⟩ <;> simp only [List.length_set, W0, Nat.reduceEqDiff, Nat.reduceLT, ↓reduceIte, hl, e3]) ?_
    rintro envg78 _ ⟨rfl, hl, e3, e5⟩
    try simp only [↓WD, W0, evalOp, Nat.reduceEqDiff, Nat.reduceLT, ↓reduceIte, reduceCtorEq, hl, e3, e5]
    obtain ⟨r192, qr192, hF⟩ := obind hF
    refine AW_lift (L_ref04_words_2) (fun s e h' => ∃ (u135 : AV), e.length = 87 ∧ e.getD 3 .undef = u135 ∧ e.getD 5 .undef = .int .i64 s.2 ∧ Sep h [] h' [.row u135 85 1 (s.1.map (cellI .u32))]) (fun r192 x e h' => ∃ (u193 : AV), x = .exit 2 ∧ e.length = 87 ∧ e.getD 3 .undef = u193 ∧ Sep h [] h' [.row u193 85 1 (r192.map (cellI .u32))]) qr192 (by omega) ?_ ?_ ?_
    · rintro s envr192 h136 or192 ⟨u135, hl, e3, e5, S137⟩ wr192
      rw [L_ref04_words_2] at wr192
      try simp only [↓WD, W0, evalOp, Nat.reduceEqDiff, Nat.reduceLT, ↓reduceIte, reduceCtorEq, hl, e3, e5]
      rw [AW_region]
      refine AE_joinR (fun e h' => h136 = h' ∧ e.length = 87 ∧ e.getD 3 .undef = u135 ∧ e.getD 5 .undef = .int .i64 s.2 ∧ e.getD 41 .undef = .bool (decide (s.2 < 64))) (by
        simp only [↓WE, WA, WL, aop, ofValue, ofCell, isConst, abin, acall1, abuiltin, aun, AV.cells, AV.one, Nat.reduceAdd, Int.reduceLT, Int.reduceLE, ↓WD, W0, evalOp, Nat.reduceEqDiff, Nat.reduceLT, ↓reduceIte, reduceCtorEq, hl, e3, e5]
        refine ⟨rfl, ?_, ?_, ?_, ?_⟩ <;> simp only [List.length_set, W0, Nat.reduceEqDiff, Nat.reduceLT, ↓reduceIte, hl, e3, e5]) ?_
      rintro envg138 _ ⟨rfl, hl, e3, e5, e41⟩
      try simp only [↓WD, W0, evalOp, Nat.reduceEqDiff, Nat.reduceLT, ↓reduceIte, reduceCtorEq, hl, e3, e5, e41]
      refine CondK_dec (fun c140 => ?_) (fun c140 => ?_)
      · rw [if_pos c140] at wr192
        try simp only [↓WD, W0, evalOp, Nat.reduceEqDiff, Nat.reduceLT, ↓reduceIte, reduceCtorEq, hl, e3, e5, e41]
        rw [AW_region]
        obtain ⟨x141, qx141, wr192⟩ := obind wr192
        obtain ⟨i142, off143, oi144, hp145⟩ := RO.addr (P := Try.prog) sl_82 (S137.row_ro (i := 0) rfl) qx141
        have ol146 := RO.ld (P := Try.prog) (S137.row_ro (i := 0) rfl) hp145 qx141 (t := 85) (o := 0) (v := .int .u32 x141) (by omega) (by simp only [apart, ag_85, sz_85]; rfl)
        simp only [Nat.add_zero] at ol146
        refine AE_joinR (fun e h' => h136 = h' ∧ e.length = 87 ∧ e.getD 3 .undef = u135 ∧ e.getD 5 .undef = .int .i64 s.2 ∧ e.getD 6 .undef = .int .u32 x141) (by
          simp only [↓WE, WA, WL, aop, ofValue, ofCell, isConst, abin, acall1, abuiltin, aun, AV.cells, AV.one, Nat.reduceAdd, Int.reduceLT, Int.reduceLE, ↓WD, W0, evalOp, Nat.reduceEqDiff, Nat.reduceLT, ↓reduceIte, reduceCtorEq, hl, e3, e5, e41, oi144, ol146]
          refine ⟨rfl, ?_, ?_, ?_, ?_⟩ <;> simp only [List.length_set, W0, Nat.reduceEqDiff, Nat.reduceLT, ↓reduceIte, hl, e3, e5, e41]) ?_
        rintro envg147 _ ⟨rfl, hl, e3, e5, e6⟩
        try simp only [↓WD, W0, evalOp, Nat.reduceEqDiff, Nat.reduceLT, ↓reduceIte, reduceCtorEq, hl, e3, e5, e6]
        rw [AW_region]
        obtain ⟨x148, qx148, wr192⟩ := obind wr192
        obtain ⟨i149, off150, oi151, hp152⟩ := RO.addr (P := Try.prog) sl_82 (S137.row_ro (i := 0) rfl) qx148
        have ol153 := RO.ld (P := Try.prog) (S137.row_ro (i := 0) rfl) hp152 qx148 (t := 85) (o := 0) (v := .int .u32 x148) (by omega) (by simp only [apart, ag_85, sz_85]; rfl)
        simp only [Nat.add_zero] at ol153
        refine AE_joinR (fun e h' => h136 = h' ∧ e.length = 87 ∧ e.getD 3 .undef = u135 ∧ e.getD 5 .undef = .int .i64 s.2 ∧ e.getD 6 .undef = .int .u32 x141 ∧ e.getD 7 .undef = .int .u32 x148) (by
          simp only [↓WE, WA, WL, aop, ofValue, ofCell, isConst, abin, acall1, abuiltin, aun, AV.cells, AV.one, Nat.reduceAdd, Int.reduceLT, Int.reduceLE, ↓WD, W0, evalOp, Nat.reduceEqDiff, Nat.reduceLT, ↓reduceIte, reduceCtorEq, hl, e3, e5, e6, oi151, ol153]
          refine ⟨rfl, ?_, ?_, ?_, ?_, ?_⟩ <;> simp only [List.length_set, W0, Nat.reduceEqDiff, Nat.reduceLT, ↓reduceIte, hl, e3, e5, e6]) ?_
        rintro envg154 _ ⟨rfl, hl, e3, e5, e6, e7⟩
        try simp only [↓WD, W0, evalOp, Nat.reduceEqDiff, Nat.reduceLT, ↓reduceIte, reduceCtorEq, hl, e3, e5, e6, e7]
        rw [AW_drawn, AE_drawnK (Ksub.cons k61 Ksub.nil) (by kernel_rfl)]
        obtain ⟨x155, qx155, wr192⟩ := obind wr192
        obtain ⟨i156, off157, oi158, hp159⟩ := RO.addr (P := Try.prog) sl_82 (S137.row_ro (i := 0) rfl) qx155
        have ol160 := RO.ld (P := Try.prog) (S137.row_ro (i := 0) rfl) hp159 qx155 (t := 85) (o := 0) (v := .int .u32 x155) (by omega) (by simp only [apart, ag_85, sz_85]; rfl)
        simp only [Nat.add_zero] at ol160
        obtain ⟨x161, qx161, wr192⟩ := obind wr192
        obtain ⟨i162, off163, oi164, hp165⟩ := RO.addr (P := Try.prog) sl_82 (S137.row_ro (i := 0) rfl) qx161
        have ol166 := RO.ld (P := Try.prog) (S137.row_ro (i := 0) rfl) hp165 qx161 (t := 85) (o := 0) (v := .int .u32 x161) (by omega) (by simp only [apart, ag_85, sz_85]; rfl)
        simp only [Nat.add_zero] at ol166
        obtain ⟨y167, qy167, wr192⟩ := obind wr192
        have og168 := fun (cf : CallF) (g : AH) => tab_hook (cf := cf) k61 (args := [.int .u32 x141, .int .i64 7]) (v := .int .u32 y167) ((kf_61_eq x141 7).trans (by rw [qy167]; rfl)) g
        obtain ⟨y169, qy169, wr192⟩ := obind wr192
        have og170 := fun (cf : CallF) (g : AH) => tab_hook (cf := cf) k61 (args := [.int .u32 x141, .int .i64 18]) (v := .int .u32 y169) ((kf_61_eq x141 18).trans (by rw [qy169]; rfl)) g
        obtain ⟨y171, qy171, wr192⟩ := obind wr192
        have oy171 := shr_int (k := .u32) qy171
        obtain ⟨y172, qy172, wr192⟩ := obind wr192
        have og173 := fun (cf : CallF) (g : AH) => tab_hook (cf := cf) k61 (args := [.int .u32 x148, .int .i64 17]) (v := .int .u32 y172) ((kf_61_eq x148 17).trans (by rw [qy172]; rfl)) g
        obtain ⟨y174, qy174, wr192⟩ := obind wr192
        have og175 := fun (cf : CallF) (g : AH) => tab_hook (cf := cf) k61 (args := [.int .u32 x148, .int .i64 19]) (v := .int .u32 y174) ((kf_61_eq x148 19).trans (by rw [qy174]; rfl)) g
        obtain ⟨y176, qy176, wr192⟩ := obind wr192
        have oy176 := shr_int (k := .u32) qy176
        obtain ⟨u177, h178, ob179, S180⟩ := Sep.build (P := Try.prog) sl_82 S137 [.int .u32 (IntKind.u32.wrap ((IntKind.u32.wrap ((IntKind.u32.wrap (x155 + x161)) + (xorI .u32 (xorI .u32 y167 y169) y171))) + (xorI .u32 (xorI .u32 y172 y174) y176)))] (([IntKind.u32.wrap ((IntKind.u32.wrap ((IntKind.u32.wrap (x155 + x161)) + (xorI .u32 (xorI .u32 y167 y169) y171))) + (xorI .u32 (xorI .u32 y172 y174) y176))] : List Int).map (cellI .u32)) rfl (by simp [cellI]) (by simp)
        have ob179 : abuildSlice Try.prog 82 1 [(0, .int .u32 (IntKind.u32.wrap ((IntKind.u32.wrap ((IntKind.u32.wrap (x155 + x161)) + (xorI .u32 (xorI .u32 y167 y169) y171))) + (xorI .u32 (xorI .u32 y172 y174) y176))))] h136 = some (u177, h178) := ob179
        have S182 : Sep h [] h178 [.row u135 85 1 (s.1.map (cellI .u32)), .row u177 85 1 (([IntKind.u32.wrap ((IntKind.u32.wrap ((IntKind.u32.wrap (x155 + x161)) + (xorI .u32 (xorI .u32 y167 y169) y171))) + (xorI .u32 (xorI .u32 y172 y174) y176))] : List Int).map (cellI .u32))] := S180
        obtain ⟨zs183, qzs183, wr192⟩ := obind wr192
        obtain ⟨u184, h185, op186, S187⟩ := Sep.append (P := Try.prog) (t' := 82) sl_82 (by rw [Try.underlying82]; rfl) S182 0 rfl (S182.row_ro (i := 1) rfl) (fun _ => rfl) qzs183
        have S188 : Sep h [] h185 [.row u184 85 1 (zs183.map (cellI .u32)), .row u177 85 1 (([IntKind.u32.wrap ((IntKind.u32.wrap ((IntKind.u32.wrap (x155 + x161)) + (xorI .u32 (xorI .u32 y167 y169) y171))) + (xorI .u32 (xorI .u32 y172 y174) y176))] : List Int).map (cellI .u32))] := S187
        refine AE_joinR (fun e h' => h185 = h' ∧ e.length = 87 ∧ e.getD 3 .undef = u184 ∧ e.getD 5 .undef = .int .i64 s.2) (by
          simp only [↓WE, WA, WL, aop, ofValue, ofCell, isConst, abin, acall1, abuiltin, aun, AV.cells, AV.one, Nat.reduceAdd, Int.reduceLT, Int.reduceLE, ↓WD, W0, evalOp, Nat.reduceEqDiff, Nat.reduceLT, ↓reduceIte, reduceCtorEq, hl, e3, e5, e6, e7, oi158, ol160, oi164, ol166, og168, og170, oy171, og173, og175, oy176, ob179, op186]
          refine ⟨rfl, ?_, ?_, ?_⟩ <;> simp only [List.length_set, W0, Nat.reduceEqDiff, Nat.reduceLT, ↓reduceIte, hl, e3, e5, e6, e7]) ?_
        rintro envg189 _ ⟨rfl, hl, e3, e5⟩
        try simp only [↓WD, W0, evalOp, Nat.reduceEqDiff, Nat.reduceLT, ↓reduceIte, reduceCtorEq, hl, e3, e5]
        rw [AW_region]
        refine AE_joinR (fun e h' => h185 = h' ∧ e.length = 87 ∧ e.getD 3 .undef = u184 ∧ e.getD 5 .undef = .int .i64 (IntKind.i64.wrap (s.2 + 1))) (by
          simp only [↓WE, WA, WL, aop, ofValue, ofCell, isConst, abin, acall1, abuiltin, aun, AV.cells, AV.one, Nat.reduceAdd, Int.reduceLT, Int.reduceLE, ↓WD, W0, evalOp, Nat.reduceEqDiff, Nat.reduceLT, ↓reduceIte, reduceCtorEq, hl, e3, e5]
          refine ⟨rfl, ?_, ?_, ?_⟩ <;> simp only [List.length_set, W0, Nat.reduceEqDiff, Nat.reduceLT, ↓reduceIte, hl, e3, e5]) ?_
        rintro envg190 _ ⟨rfl, hl, e3, e5⟩
        try simp only [↓WD, W0, evalOp, Nat.reduceEqDiff, Nat.reduceLT, ↓reduceIte, reduceCtorEq, hl, e3, e5]
        obtain rfl := Option.some.inj wr192
        rw [KP_nil, QL_normal]
        refine ⟨_, rfl, u184, ?_, ?_, ?_, S188.pick [0] (by decide) rfl⟩ <;> simp only [List.length_set, W0, Nat.reduceEqDiff, Nat.reduceLT, ↓reduceIte, hl, e3, e5]
      · rw [if_neg c140] at wr192
        try simp only [↓WD, W0, evalOp, Nat.reduceEqDiff, Nat.reduceLT, ↓reduceIte, reduceCtorEq, hl, e3, e5, e41]
        obtain rfl := Option.some.inj wr192
        rw [KP_nil, QL_exit]
        refine ⟨_, rfl, u135, rfl, ?_, ?_, S137⟩ <;> simp only [List.length_set, W0, Nat.reduceEqDiff, Nat.reduceLT, ↓reduceIte, hl, e3, e5, e41]
    · refine ⟨u75, ?_, ?_, ?_, S77⟩ <;> simp only [List.length_set, W0, Nat.reduceEqDiff, Nat.reduceLT, ↓reduceIte, hl, e3, e5]
    · rintro x envr192 h194 ⟨u193, rfl, hl, e3, S195⟩
      try simp only [↓WD, W0, evalOp, Nat.reduceEqDiff, Nat.reduceLT, ↓reduceIte, reduceCtorEq, hl, e3]
      rw [AW_region]
      refine AE_joinR (fun e h' => h194 = h' ∧ e.length = 87 ∧ e.getD 2 .undef = u193) (by
        simp only [↓WE, WA, WL, aop, ofValue, ofCell, isConst, abin, acall1, abuiltin, aun, AV.cells, AV.one, Nat.reduceAdd, Int.reduceLT, Int.reduceLE, ↓WD, W0, evalOp, Nat.reduceEqDiff, Nat.reduceLT, ↓reduceIte, reduceCtorEq, hl, e3]
        refine ⟨rfl, ?_, ?_⟩ <;> simp only [List.length_set, W0, Nat.reduceEqDiff, Nat.reduceLT, ↓reduceIte, hl, e3]) ?_
      rintro envg196 _ ⟨rfl, hl, e2⟩
      try simp only [↓WD, W0, evalOp, Nat.reduceEqDiff, Nat.reduceLT, ↓reduceIte, reduceCtorEq, hl, e2]
      refine KP_ret (vs := [u193]) (by simp only [aresults, aresult, gs, List.length_set, Nat.reduceEqDiff, Nat.reduceLT, ↓reduceIte, hl, e2]) ?_
      obtain rfl := Option.some.inj hF
      exact ⟨u193, rfl, S195⟩
theorem W_ref04_Of {K : PureK} (k59 : K 59 = some kf_59) (k61 : K 61 = some kf_61) (k98 : K 98 = some kf_98) (n58 : K 58 = none) (n60 : K 60 = none) (n97 : K 97 = none) (n15 : K 15 = none) (m : Nat) (hm : NF + 3 ≤ m) (h : AH) (s_ : List UInt8) {r : (List UInt8)} (hF : F_ref04_Of s_ = some r) :
    AR (acall Try.prog (hooksOf K) (drawnOf Try.prog (tabOf K)) m 15 [.str s_] h) (fun v h' => v = .str r) := by
  obtain ⟨m, rfl⟩ : ∃ k, m = k + 1 := ⟨m - 1, by omega⟩
  refine AR_call (hooksOf_none n15) Try.func15 rfl _ _ fun env hl he => ?_
  have e0 := he 0
  simp only [List.getD_cons_zero, List.getD_cons_succ] at e0
  simp only [Try.f15] at hl ⊢
  simp only [List.length_cons, List.length_nil, Nat.reduceAdd, Nat.reduceSub] at hl
  clear he
  have S0 : Sep h [] h [] := Sep.nil h
  rw [F_ref04_Of] at hF
  try simp only [↓WD, W0, evalOp, Nat.reduceEqDiff, Nat.reduceLT, ↓reduceIte, reduceCtorEq, hl, e0]
  rw [AW_region]
  refine AE_joinR (fun e h' => h = h' ∧ e.length = 195 ∧ e.getD 0 .undef = .str s_) (by
    simp only [↓WE, WA, WL, aop, ofValue, ofCell, isConst, abin, acall1, abuiltin, aun, AV.cells, AV.one, Nat.reduceAdd, Int.reduceLT, Int.reduceLE, ↓WD, W0, evalOp, Nat.reduceEqDiff, Nat.reduceLT, ↓reduceIte, reduceCtorEq, hl, e0]
    refine ⟨rfl, ?_, ?_⟩ <;> simp only [List.length_set, W0, Nat.reduceEqDiff, Nat.reduceLT, ↓reduceIte, hl, e0]) ?_
  rintro envg1 _ ⟨rfl, hl, e0⟩
  try simp only [↓WD, W0, evalOp, Nat.reduceEqDiff, Nat.reduceLT, ↓reduceIte, reduceCtorEq, hl, e0]
  rw [AW_region]
  obtain ⟨y2, qy2, hF⟩ := obind hF
  obtain ⟨u6, h4, og3, _, rfl, S5⟩ := (W_ref04_roots k98 n97 n58 m (by omega) h 8 2 qy2).out
  have S9 : Sep h [] h4 [.row u6 85 1 (y2.map (cellI .u32))] := S0.call0 S5
  refine AE_joinR (fun e h' => h4 = h' ∧ e.length = 195 ∧ e.getD 0 .undef = .str s_ ∧ e.getD 3 .undef = u6) (by
    simp only [↓WE, WA, WL, aop, ofValue, ofCell, isConst, abin, acall1, abuiltin, aun, AV.cells, AV.one, Nat.reduceAdd, Int.reduceLT, Int.reduceLE, ↓WD, W0, evalOp, Nat.reduceEqDiff, Nat.reduceLT, ↓reduceIte, reduceCtorEq, hl, e0, og3]
    refine ⟨rfl, ?_, ?_, ?_⟩ <;> simp only [List.length_set, W0, Nat.reduceEqDiff, Nat.reduceLT, ↓reduceIte, hl, e0]) ?_
  rintro envg10 _ ⟨rfl, hl, e0, e3⟩
  try simp only [↓WD, W0, evalOp, Nat.reduceEqDiff, Nat.reduceLT, ↓reduceIte, reduceCtorEq, hl, e0, e3]
  rw [AW_region]
  obtain ⟨y11, qy11, hF⟩ := obind hF
  obtain ⟨u15, h13, og12, _, rfl, S14⟩ := (W_ref04_roots k98 n97 n58 m (by omega) h4 64 3 qy11).out
  have S18 : Sep h [] h13 [.row u6 85 1 (y2.map (cellI .u32)), .row u15 85 1 (y11.map (cellI .u32))] := S9.call0 S14
  refine AE_joinR (fun e h' => h13 = h' ∧ e.length = 195 ∧ e.getD 0 .undef = .str s_ ∧ e.getD 3 .undef = u6 ∧ e.getD 4 .undef = u15) (by
    simp only [↓WE, WA, WL, aop, ofValue, ofCell, isConst, abin, acall1, abuiltin, aun, AV.cells, AV.one, Nat.reduceAdd, Int.reduceLT, Int.reduceLE, ↓WD, W0, evalOp, Nat.reduceEqDiff, Nat.reduceLT, ↓reduceIte, reduceCtorEq, hl, e0, e3, og12]
    refine ⟨rfl, ?_, ?_, ?_, ?_⟩ <;> simp only [List.length_set, W0, Nat.reduceEqDiff, Nat.reduceLT, ↓reduceIte, hl, e0, e3]) ?_
  rintro envg19 _ ⟨rfl, hl, e0, e3, e4⟩
  try simp only [↓WD, W0, evalOp, Nat.reduceEqDiff, Nat.reduceLT, ↓reduceIte, reduceCtorEq, hl, e0, e3, e4]
  rw [AW_region]
  obtain ⟨y20, qy20, hF⟩ := obind hF
  have og21 := fun (D : Drawn) (n : Nat) (g : AH) => call_hook (P := Try.prog) (D := D) k59 n (args := [.str s_]) (v := .str y20) ((kf_59_eq s_).trans (by rw [qy20]; rfl)) g
  refine AE_joinR (fun e h' => h13 = h' ∧ e.length = 195 ∧ e.getD 0 .undef = .str y20 ∧ e.getD 3 .undef = u6 ∧ e.getD 4 .undef = u15) (by
    simp only [↓WE, WA, WL, aop, ofValue, ofCell, isConst, abin, acall1, abuiltin, aun, AV.cells, AV.one, Nat.reduceAdd, Int.reduceLT, Int.reduceLE, ↓WD, W0, evalOp, Nat.reduceEqDiff, Nat.reduceLT, ↓reduceIte, reduceCtorEq, hl, e0, e3, e4, og21]
    refine ⟨rfl, ?_, ?_, ?_, ?_⟩ <;> simp only [List.length_set, W0, Nat.reduceEqDiff, Nat.reduceLT, ↓reduceIte, hl, e0, e3, e4]) ?_
  rintro envg22 _ ⟨rfl, hl, e0, e3, e4⟩
  try simp only [↓WD, W0, evalOp, Nat.reduceEqDiff, Nat.reduceLT, ↓reduceIte, reduceCtorEq, hl, e0, e3, e4]
  rw [AW_region]
  refine AE_joinR (fun e h' => h13 = h' ∧ e.length = 195 ∧ e.getD 0 .undef = .str y20 ∧ e.getD 3 .undef = u6 ∧ e.getD 4 .undef = u15 ∧ e.getD 5 .undef = .int .i64 0) (by
    simp only [↓WE, WA, WL, aop, ofValue, ofCell, isConst, abin, acall1, abuiltin, aun, AV.cells, AV.one, Nat.reduceAdd, Int.reduceLT, Int.reduceLE, ↓WD, W0, evalOp, Nat.reduceEqDiff, Nat.reduceLT, ↓reduceIte, reduceCtorEq, hl, e0, e3, e4]
    refine ⟨rfl, ?_, ?_, ?_, ?_, ?_⟩ <;> simp only [List.length_set, W0, Nat.reduceEqDiff, Nat.reduceLT, ↓reduceIte, hl, e0, e3, e4]) ?_
  rintro envg23 _ ⟨rfl, hl, e0, e3, e4, e5⟩
  try simp only [↓WD, W0, evalOp, Nat.reduceEqDiff, Nat.reduceLT, ↓reduceIte, reduceCtorEq, hl, e0, e3, e4, e5]
  obtain ⟨r962, qr962, hF⟩ := obind hF
  refine AW_lift (L_ref04_Of_1 y20 y11) (fun s e h' => e.length = 195 ∧ e.getD 0 .undef = .str y20 ∧ e.getD 3 .undef = u6 ∧ e.getD 4 .undef = u15 ∧ e.getD 5 .undef = .int .i64 s.2 ∧ Sep h [] h' [.row u6 85 1 (s.1.map (cellI .u32)), .row u15 85 1 (y11.map (cellI .u32))]) (fun r962 x e h' => x = .exit 0 ∧ e.length = 195 ∧ e.getD 3 .undef = u6 ∧ Sep h [] h' [.row u6 85 1 (r962.map (cellI .u32))]) qr962 (by omega) ?_ ?_ ?_
  · rintro s envr962 h493 or962 ⟨hl, e0, e3, e4, e5, S494⟩ wr962
    rw [L_ref04_Of_1] at wr962
    try simp only [↓WD, W0, evalOp, Nat.reduceEqDiff, Nat.reduceLT, ↓reduceIte, reduceCtorEq, hl, e0, e3, e4, e5]
    rw [AW_region]
    have ol495 := fun g : AH => alen_str (P := Try.prog) (h := g) (l := y20) Try.underlying9
    refine AE_joinR (fun e h' => h493 = h' ∧ e.length = 195 ∧ e.getD 0 .undef = .str y20 ∧ e.getD 3 .undef = u6 ∧ e.getD 4 .undef = u15 ∧ e.getD 5 .undef = .int .i64 s.2 ∧ e.getD 21 .undef = .bool (decide (s.2 < (y20.length : Int)))) (by
      simp only [↓WE, WA, WL, aop, ofValue, ofCell, isConst, abin, acall1, abuiltin, aun, AV.cells, AV.one, Nat.reduceAdd, Int.reduceLT, Int.reduceLE, ↓WD, W0, evalOp, Nat.reduceEqDiff, Nat.reduceLT, ↓reduceIte, reduceCtorEq, hl, e0, e3, e4, e5, ol495]
      refine ⟨rfl, ?_, ?_, ?_, ?_, ?_, ?_⟩ <;> simp only [List.length_set, W0, Nat.reduceEqDiff, Nat.reduceLT, ↓reduceIte, hl, e0, e3, e4, e5]) ?_
    rintro envg496 _ ⟨rfl, hl, e0, e3, e4, e5, e21⟩
    try simp only [↓WD, W0, evalOp, Nat.reduceEqDiff, Nat.reduceLT, ↓reduceIte, reduceCtorEq, hl, e0, e3, e4, e5, e21]
    refine CondK_dec (fun c498 => ?_) (fun c498 => ?_)
    · rw [if_pos c498] at wr962
      try simp only [↓WD, W0, evalOp, Nat.reduceEqDiff, Nat.reduceLT, ↓reduceIte, reduceCtorEq, hl, e0, e3, e4, e5, e21]
      rw [AW_region]
      obtain ⟨s499, qs499, wr962⟩ := obind wr962
      have os499 := fun g : AH => sub_str (P := Try.prog) (h := g) (k := .i64) (k' := .i64) Try.underlying9 qs499
      obtain ⟨y500, qy500, wr962⟩ := obind wr962
      obtain ⟨u504, h502, og501, _, rfl, S503⟩ := (W_ref04_words k61 n60 m (by omega) h493 s499 qy500).out
      have S507 : Sep h [] h502 [.row u6 85 1 (s.1.map (cellI .u32)), .row u15 85 1 (y11.map (cellI .u32)), .row u504 85 1 (y500.map (cellI .u32))] := S494.call0 S503
      refine AE_joinR (fun e h' => h502 = h' ∧ e.length = 195 ∧ e.getD 0 .undef = .str y20 ∧ e.getD 3 .undef = u6 ∧ e.getD 4 .undef = u15 ∧ e.getD 5 .undef = .int .i64 s.2 ∧ e.getD 6 .undef = u504) (by
        simp only [↓WE, WA, WL, aop, ofValue, ofCell, isConst, abin, acall1, abuiltin, aun, AV.cells, AV.one, Nat.reduceAdd, Int.reduceLT, Int.reduceLE, ↓WD, W0, evalOp, Nat.reduceEqDiff, Nat.reduceLT, ↓reduceIte, reduceCtorEq, hl, e0, e3, e4, e5, e21, os499, og501]
        refine ⟨rfl, ?_, ?_, ?_, ?_, ?_, ?_⟩ <;> simp only [List.length_set, W0, Nat.reduceEqDiff, Nat.reduceLT, ↓reduceIte, hl, e0, e3, e4, e5, e21]) ?_
      rintro envg508 _ ⟨rfl, hl, e0, e3, e4, e5, e6⟩
      try simp only [↓WD, W0, evalOp, Nat.reduceEqDiff, Nat.reduceLT, ↓reduceIte, reduceCtorEq, hl, e0, e3, e4, e5, e6]
      rw [AW_region]
      obtain ⟨u509, h510, ob511, S512⟩ := Sep.build (P := Try.prog) sl_82 S507 [] (([] : List Int).map (cellI .u32)) rfl (by simp [cellI]) (by simp)
      have ob511 : abuildSlice Try.prog 82 0 [] h502 = some (u509, h510) := ob511
      have S514 : Sep h [] h510 [.row u6 85 1 (s.1.map (cellI .u32)), .row u15 85 1 (y11.map (cellI .u32)), .row u504 85 1 (y500.map (cellI .u32)), .row u509 85 1 (([] : List Int).map (cellI .u32))] := S512
      obtain ⟨zs515, qzs515, wr962⟩ := obind wr962
      obtain ⟨u516, h517, op518, S519⟩ := Sep.append (P := Try.prog) (t' := 82) sl_82 (by rw [Try.underlying82]; rfl) S514 3 rfl (S514.row_ro (i := 0) rfl) (fun _ => rfl) qzs515
      have S520 : Sep h [] h517 [.row u6 85 1 (s.1.map (cellI .u32)), .row u15 85 1 (y11.map (cellI .u32)), .row u504 85 1 (y500.map (cellI .u32)), .row u516 85 1 (zs515.map (cellI .u32))] := S519
      refine AE_joinR (fun e h' => h517 = h' ∧ e.length = 195 ∧ e.getD 0 .undef = .str y20 ∧ e.getD 3 .undef = u6 ∧ e.getD 4 .undef = u15 ∧ e.getD 5 .undef = .int .i64 s.2 ∧ e.getD 6 .undef = u504 ∧ e.getD 7 .undef = u516) (by
        simp only [↓WE, WA, WL, aop, ofValue, ofCell, isConst, abin, acall1, abuiltin, aun, AV.cells, AV.one, Nat.reduceAdd, Int.reduceLT, Int.reduceLE, ↓WD, W0, evalOp, Nat.reduceEqDiff, Nat.reduceLT, ↓reduceIte, reduceCtorEq, hl, e0, e3, e4, e5, e6, ob511, op518]
        refine ⟨rfl, ?_, ?_, ?_, ?_, ?_, ?_, ?_⟩ <;> simp only [List.length_set, W0, Nat.reduceEqDiff, Nat.reduceLT, ↓reduceIte, hl, e0, e3, e4, e5, e6]) ?_
      rintro envg521 _ ⟨rfl, hl, e0, e3, e4, e5, e6, e7⟩
      try simp only [↓WD, W0, evalOp, Nat.reduceEqDiff, Nat.reduceLT, ↓reduceIte, reduceCtorEq, hl, e0, e3, e4, e5, e6, e7]
      rw [AW_region]
      refine AE_joinR (fun e h' => h517 = h' ∧ e.length = 195 ∧ e.getD 0 .undef = .str y20 ∧ e.getD 3 .undef = u6 ∧ e.getD 4 .undef = u15 ∧ e.getD 5 .undef = .int .i64 s.2 ∧ e.getD 6 .undef = u504 ∧ e.getD 7 .undef = u516 ∧ e.getD 8 .undef = .int .i64 0) (by
        simp only [↓WE, WA, WL, aop, ofValue, ofCell, isConst, abin, acall1, abuiltin, aun, AV.cells, AV.one, Nat.reduceAdd, Int.reduceLT, Int.reduceLE, ↓WD, W0, evalOp, Nat.reduceEqDiff, Nat.reduceLT, ↓reduceIte, reduceCtorEq, hl, e0, e3, e4, e5, e6, e7]
        refine ⟨rfl, ?_, ?_, ?_, ?_, ?_, ?_, ?_, ?_⟩ <;> simp only [List.length_set, W0, Nat.reduceEqDiff, Nat.reduceLT, ↓reduceIte, hl, e0, e3, e4, e5, e6, e7]) ?_
      rintro envg522 _ ⟨rfl, hl, e0, e3, e4, e5, e6, e7, e8⟩
      try simp only [↓WD, W0, evalOp, Nat.reduceEqDiff, Nat.reduceLT, ↓reduceIte, reduceCtorEq, hl, e0, e3, e4, e5, e6, e7, e8]
      obtain ⟨r895, qr895, wr962⟩ := obind wr962
      refine AW_lift (L_ref04_Of_2 y11 y500) (fun s e h' => ∃ (u709 : AV), e.length = 195 ∧ e.getD 0 .undef = .str y20 ∧ e.getD 3 .undef = u6 ∧ e.getD 4 .undef = u15 ∧ e.getD 5 .undef = .int .i64 s.2.1 ∧ e.getD 6 .undef = u504 ∧ e.getD 7 .undef = u709 ∧ e.getD 8 .undef = .int .i64 s.2.2.2 ∧ Sep h [] h' [.row u6 85 1 (s.1.map (cellI .u32)), .row u15 85 1 (y11.map (cellI .u32)), .row u504 85 1 (y500.map (cellI .u32)), .row u709 85 1 (s.2.2.1.map (cellI .u32))]) (fun r895 x e h' => ∃ (u896 : AV), x = .exit 2 ∧ e.length = 195 ∧ e.getD 0 .undef = .str y20 ∧ e.getD 3 .undef = u6 ∧ e.getD 4 .undef = u15 ∧ e.getD 5 .undef = .int .i64 r895.2.1 ∧ e.getD 7 .undef = u896 ∧ Sep h [] h' [.row u6 85 1 (r895.1.map (cellI .u32)), .row u15 85 1 (y11.map (cellI .u32)), .row u896 85 1 (r895.2.2.map (cellI .u32))]) qr895 (by omega) ?_ ?_ ?_
      · rintro s envr895 h710 or895 ⟨u709, hl, e0, e3, e4, e5, e6, e7, e8, S711⟩ wr895
        rw [L_ref04_Of_2] at wr895
        try simp only [↓WD, W0, evalOp, Nat.reduceEqDiff, Nat.reduceLT, ↓reduceIte, reduceCtorEq, hl, e0, e3, e4, e5, e6, e7, e8]
        rw [AW_region]
        refine AE_joinR (fun e h' => h710 = h' ∧ e.length = 195 ∧ e.getD 0 .undef = .str y20 ∧ e.getD 3 .undef = u6 ∧ e.getD 4 .undef = u15 ∧ e.getD 5 .undef = .int .i64 s.2.1 ∧ e.getD 6 .undef = u504 ∧ e.getD 7 .undef = u709 ∧ e.getD 8 .undef = .int .i64 s.2.2.2 ∧ e.getD 34 .undef = .bool (decide (s.2.2.2 < 64))) (by
          simp only [↓WE, WA, WL, aop, ofValue, ofCell, isConst, abin, acall1, abuiltin, aun, AV.cells, AV.one, Nat.reduceAdd, Int.reduceLT, Int.reduceLE, ↓WD, W0, evalOp, Nat.reduceEqDiff, Nat.reduceLT, ↓reduceIte, reduceCtorEq, hl, e0, e3, e4, e5, e6, e7, e8]
          refine ⟨rfl, ?_, ?_, ?_, ?_, ?_, ?_, ?_, ?_, ?_⟩ <;> simp only [List.length_set, W0, Nat.reduceEqDiff, Nat.reduceLT, ↓reduceIte, hl, e0, e3, e4, e5, e6, e7, e8]) ?_
        rintro envg712 _ ⟨rfl, hl, e0, e3, e4, e5, e6, e7, e8, e34⟩
        try simp only [↓WD, W0, evalOp, Nat.reduceEqDiff, Nat.reduceLT, ↓reduceIte, reduceCtorEq, hl, e0, e3, e4, e5, e6, e7, e8, e34]
        refine CondK_dec (fun c714 => ?_) (fun c714 => ?_)
        · rw [if_pos c714] at wr895
          try simp only [↓WD, W0, evalOp, Nat.reduceEqDiff, Nat.reduceLT, ↓reduceIte, reduceCtorEq, hl, e0, e3, e4, e5, e6, e7, e8, e34]
          rw [AW_drawn, AE_drawnK (Ksub.cons k59 (Ksub.cons k61 (Ksub.cons k98 Ksub.nil))) (by kernel_rfl)]
          obtain ⟨x715, qx715, wr895⟩ := obind wr895
          obtain ⟨i716, off717, oi718, hp719⟩ := RO.addr (P := Try.prog) sl_82 (S711.row_ro (i := 3) rfl) qx715
          have ol720 := RO.ld (P := Try.prog) (S711.row_ro (i := 3) rfl) hp719 qx715 (t := 85) (o := 0) (v := .int .u32 x715) (by omega) (by simp only [apart, ag_85, sz_85]; rfl)
          simp only [Nat.add_zero] at ol720
          obtain ⟨x721, qx721, wr895⟩ := obind wr895
          obtain ⟨i722, off723, oi724, hp725⟩ := RO.addr (P := Try.prog) sl_82 (S711.row_ro (i := 3) rfl) qx721
          have ol726 := RO.ld (P := Try.prog) (S711.row_ro (i := 3) rfl) hp725 qx721 (t := 85) (o := 0) (v := .int .u32 x721) (by omega) (by simp only [apart, ag_85, sz_85]; rfl)
          simp only [Nat.add_zero] at ol726
          obtain ⟨y727, qy727, wr895⟩ := obind wr895
          have og728 := fun (cf : CallF) (g : AH) => tab_hook (cf := cf) k61 (args := [.int .u32 x721, .int .i64 6]) (v := .int .u32 y727) ((kf_61_eq x721 6).trans (by rw [qy727]; rfl)) g
          have ol734 := RO.ld (P := Try.prog) (S711.row_ro (i := 3) rfl) hp725 qx721 (t := 85) (o := 0) (v := .int .u32 x721) (by omega) (by simp only [apart, ag_85, sz_85]; rfl)
          simp only [Nat.add_zero] at ol734
          obtain ⟨y735, qy735, wr895⟩ := obind wr895
          have og736 := fun (cf : CallF) (g : AH) => tab_hook (cf := cf) k61 (args := [.int .u32 x721, .int .i64 11]) (v := .int .u32 y735) ((kf_61_eq x721 11).trans (by rw [qy735]; rfl)) g
          have ol742 := RO.ld (P := Try.prog) (S711.row_ro (i := 3) rfl) hp725 qx721 (t := 85) (o := 0) (v := .int .u32 x721) (by omega) (by simp only [apart, ag_85, sz_85]; rfl)
          simp only [Nat.add_zero] at ol742
          obtain ⟨y743, qy743, wr895⟩ := obind wr895
          have og744 := fun (cf : CallF) (g : AH) => tab_hook (cf := cf) k61 (args := [.int .u32 x721, .int .i64 25]) (v := .int .u32 y743) ((kf_61_eq x721 25).trans (by rw [qy743]; rfl)) g
          have ol750 := RO.ld (P := Try.prog) (S711.row_ro (i := 3) rfl) hp725 qx721 (t := 85) (o := 0) (v := .int .u32 x721) (by omega) (by simp only [apart, ag_85, sz_85]; rfl)
          simp only [Nat.add_zero] at ol750
          obtain ⟨x751, qx751, wr895⟩ := obind wr895
          obtain ⟨i752, off753, oi754, hp755⟩ := RO.addr (P := Try.prog) sl_82 (S711.row_ro (i := 3) rfl) qx751
          have ol756 := RO.ld (P := Try.prog) (S711.row_ro (i := 3) rfl) hp755 qx751 (t := 85) (o := 0) (v := .int .u32 x751) (by omega) (by simp only [apart, ag_85, sz_85]; rfl)
          simp only [Nat.add_zero] at ol756
          have ol762 := RO.ld (P := Try.prog) (S711.row_ro (i := 3) rfl) hp725 qx721 (t := 85) (o := 0) (v := .int .u32 x721) (by omega) (by simp only [apart, ag_85, sz_85]; rfl)
          simp only [Nat.add_zero] at ol762
          obtain ⟨x763, qx763, wr895⟩ := obind wr895
          obtain ⟨i764, off765, oi766, hp767⟩ := RO.addr (P := Try.prog) sl_82 (S711.row_ro (i := 3) rfl) qx763
          have ol768 := RO.ld (P := Try.prog) (S711.row_ro (i := 3) rfl) hp767 qx763 (t := 85) (o := 0) (v := .int .u32 x763) (by omega) (by simp only [apart, ag_85, sz_85]; rfl)
          simp only [Nat.add_zero] at ol768
          obtain ⟨x769, qx769, wr895⟩ := obind wr895
          obtain ⟨i770, off771, oi772, hp773⟩ := RO.addr (P := Try.prog) sl_82 (S711.row_ro (i := 1) rfl) qx769
          have ol774 := RO.ld (P := Try.prog) (S711.row_ro (i := 1) rfl) hp773 qx769 (t := 85) (o := 0) (v := .int .u32 x769) (by omega) (by simp only [apart, ag_85, sz_85]; rfl)
          simp only [Nat.add_zero] at ol774
          obtain ⟨x775, qx775, wr895⟩ := obind wr895
          obtain ⟨i776, off777, oi778, hp779⟩ := RO.addr (P := Try.prog) sl_82 (S711.row_ro (i := 2) rfl) qx775
          have ol780 := RO.ld (P := Try.prog) (S711.row_ro (i := 2) rfl) hp779 qx775 (t := 85) (o := 0) (v := .int .u32 x775) (by omega) (by simp only [apart, ag_85, sz_85]; rfl)
          simp only [Nat.add_zero] at ol780
          refine AE_joinR (fun e h' => h710 = h' ∧ e.length = 195 ∧ e.getD 0 .undef = .str y20 ∧ e.getD 3 .undef = u6 ∧ e.getD 4 .undef = u15 ∧ e.getD 5 .undef = .int .i64 s.2.1 ∧ e.getD 6 .undef = u504 ∧ e.getD 7 .undef = u709 ∧ e.getD 8 .undef = .int .i64 s.2.2.2 ∧ e.getD 9 .undef = .int .u32 (IntKind.u32.wrap ((IntKind.u32.wrap ((IntKind.u32.wrap ((IntKind.u32.wrap (x715 + (xorI .u32 (xorI .u32 y727 y735) y743))) + (xorI .u32 (andI .u32 x721 x751) (andI .u32 (IntKind.u32.wrap (4294967295 - x721)) x763)))) + x769)) + x775))) (by
            simp only [↓WE, WA, WL, aop, ofValue, ofCell, isConst, abin, acall1, abuiltin, aun, AV.cells, AV.one, Nat.reduceAdd, Int.reduceLT, Int.reduceLE, ↓WD, W0, evalOp, Nat.reduceEqDiff, Nat.reduceLT, ↓reduceIte, reduceCtorEq, hl, e0, e3, e4, e5, e6, e7, e8, e34, oi718, ol720, oi724, ol726, og728, ol734, og736, ol742, og744, ol750, oi754, ol756, ol762, oi766, ol768, oi772, ol774, oi778, ol780]
            refine ⟨rfl, ?_, ?_, ?_, ?_, ?_, ?_, ?_, ?_, ?_⟩ <;> simp only [List.length_set, W0, Nat.reduceEqDiff, Nat.reduceLT, ↓reduceIte, hl, e0, e3, e4, e5, e6, e7, e8, e34]) ?_
          rintro envg781 _ ⟨rfl, hl, e0, e3, e4, e5, e6, e7, e8, e9⟩
          try simp only [↓WD, W0, evalOp, Nat.reduceEqDiff, Nat.reduceLT, ↓reduceIte, reduceCtorEq, hl, e0, e3, e4, e5, e6, e7, e8, e9]
          rw [AW_drawn, AE_drawnK (Ksub.cons k59 (Ksub.cons k61 (Ksub.cons k98 Ksub.nil))) (by kernel_rfl)]
          obtain ⟨x782, qx782, wr895⟩ := obind wr895
          obtain ⟨i783, off784, oi785, hp786⟩ := RO.addr (P := Try.prog) sl_82 (S711.row_ro (i := 3) rfl) qx782
          have ol787 := RO.ld (P := Try.prog) (S711.row_ro (i := 3) rfl) hp786 qx782 (t := 85) (o := 0) (v := .int .u32 x782) (by omega) (by simp only [apart, ag_85, sz_85]; rfl)
          simp only [Nat.add_zero] at ol787
          obtain ⟨y788, qy788, wr895⟩ := obind wr895
          have og789 := fun (cf : CallF) (g : AH) => tab_hook (cf := cf) k61 (args := [.int .u32 x782, .int .i64 2]) (v := .int .u32 y788) ((kf_61_eq x782 2).trans (by rw [qy788]; rfl)) g
          have ol795 := RO.ld (P := Try.prog) (S711.row_ro (i := 3) rfl) hp786 qx782 (t := 85) (o := 0) (v := .int .u32 x782) (by omega) (by simp only [apart, ag_85, sz_85]; rfl)
          simp only [Nat.add_zero] at ol795
          obtain ⟨y796, qy796, wr895⟩ := obind wr895
          have og797 := fun (cf : CallF) (g : AH) => tab_hook (cf := cf) k61 (args := [.int .u32 x782, .int .i64 13]) (v := .int .u32 y796) ((kf_61_eq x782 13).trans (by rw [qy796]; rfl)) g
          have ol803 := RO.ld (P := Try.prog) (S711.row_ro (i := 3) rfl) hp786 qx782 (t := 85) (o := 0) (v := .int .u32 x782) (by omega) (by simp only [apart, ag_85, sz_85]; rfl)
          simp only [Nat.add_zero] at ol803
          obtain ⟨y804, qy804, wr895⟩ := obind wr895
          have og805 := fun (cf : CallF) (g : AH) => tab_hook (cf := cf) k61 (args := [.int .u32 x782, .int .i64 22]) (v := .int .u32 y804) ((kf_61_eq x782 22).trans (by rw [qy804]; rfl)) g
          have ol811 := RO.ld (P := Try.prog) (S711.row_ro (i := 3) rfl) hp786 qx782 (t := 85) (o := 0) (v := .int .u32 x782) (by omega) (by simp only [apart, ag_85, sz_85]; rfl)
          simp only [Nat.add_zero] at ol811
          obtain ⟨x812, qx812, wr895⟩ := obind wr895
          obtain ⟨i813, off814, oi815, hp816⟩ := RO.addr (P := Try.prog) sl_82 (S711.row_ro (i := 3) rfl) qx812
          have ol817 := RO.ld (P := Try.prog) (S711.row_ro (i := 3) rfl) hp816 qx812 (t := 85) (o := 0) (v := .int .u32 x812) (by omega) (by simp only [apart, ag_85, sz_85]; rfl)
          simp only [Nat.add_zero] at ol817
          have ol823 := RO.ld (P := Try.prog) (S711.row_ro (i := 3) rfl) hp786 qx782 (t := 85) (o := 0) (v := .int .u32 x782) (by omega) (by simp only [apart, ag_85, sz_85]; rfl)
          simp only [Nat.add_zero] at ol823
          obtain ⟨x824, qx824, wr895⟩ := obind wr895
          obtain ⟨i825, off826, oi827, hp828⟩ := RO.addr (P := Try.prog) sl_82 (S711.row_ro (i := 3) rfl) qx824
          have ol829 := RO.ld (P := Try.prog) (S711.row_ro (i := 3) rfl) hp828 qx824 (t := 85) (o := 0) (v := .int .u32 x824) (by omega) (by simp only [apart, ag_85, sz_85]; rfl)
          simp only [Nat.add_zero] at ol829
          have ol835 := RO.ld (P := Try.prog) (S711.row_ro (i := 3) rfl) hp816 qx812 (t := 85) (o := 0) (v := .int .u32 x812) (by omega) (by simp only [apart, ag_85, sz_85]; rfl)
          simp only [Nat.add_zero] at ol835
          have ol841 := RO.ld (P := Try.prog) (S711.row_ro (i := 3) rfl) hp828 qx824 (t := 85) (o := 0) (v := .int .u32 x824) (by omega) (by simp only [apart, ag_85, sz_85]; rfl)
          simp only [Nat.add_zero] at ol841
          refine AE_joinR (fun e h' => h710 = h' ∧ e.length = 195 ∧ e.getD 0 .undef = .str y20 ∧ e.getD 3 .undef = u6 ∧ e.getD 4 .undef = u15 ∧ e.getD 5 .undef = .int .i64 s.2.1 ∧ e.getD 6 .undef = u504 ∧ e.getD 7 .undef = u709 ∧ e.getD 8 .undef = .int .i64 s.2.2.2 ∧ e.getD 9 .undef = .int .u32 (IntKind.u32.wrap ((IntKind.u32.wrap ((IntKind.u32.wrap ((IntKind.u32.wrap (x715 + (xorI .u32 (xorI .u32 y727 y735) y743))) + (xorI .u32 (andI .u32 x721 x751) (andI .u32 (IntKind.u32.wrap (4294967295 - x721)) x763)))) + x769)) + x775)) ∧ e.getD 10 .undef = .int .u32 (IntKind.u32.wrap ((xorI .u32 (xorI .u32 y788 y796) y804) + (xorI .u32 (xorI .u32 (andI .u32 x782 x812) (andI .u32 x782 x824)) (andI .u32 x812 x824))))) (by
            simp only [↓WE, WA, WL, aop, ofValue, ofCell, isConst, abin, acall1, abuiltin, aun, AV.cells, AV.one, Nat.reduceAdd, Int.reduceLT, Int.reduceLE, ↓WD, W0, evalOp, Nat.reduceEqDiff, Nat.reduceLT, ↓reduceIte, reduceCtorEq, hl, e0, e3, e4, e5, e6, e7, e8, e9, oi785, ol787, og789, ol795, og797, ol803, og805, ol811, oi815, ol817, ol823, oi827, ol829, ol835, ol841]
            refine ⟨rfl, ?_, ?_, ?_, ?_, ?_, ?_, ?_, ?_, ?_, ?_⟩ <;> simp only [List.length_set, W0, Nat.reduceEqDiff, Nat.reduceLT, ↓reduceIte, hl, e0, e3, e4, e5, e6, e7, e8, e9]) ?_
          rintro envg842 _ ⟨rfl, hl, e0, e3, e4, e5, e6, e7, e8, e9, e10⟩
          try simp only [↓WD, W0, evalOp, Nat.reduceEqDiff, Nat.reduceLT, ↓reduceIte, reduceCtorEq, hl, e0, e3, e4, e5, e6, e7, e8, e9, e10]
          rw [AW_drawn, AE_drawnK (Ksub.cons k59 (Ksub.cons k61 (Ksub.cons k98 Ksub.nil))) (by kernel_rfl)]
          have ol848 := RO.ld (P := Try.prog) (S711.row_ro (i := 3) rfl) hp786 qx782 (t := 85) (o := 0) (v := .int .u32 x782) (by omega) (by simp only [apart, ag_85, sz_85]; rfl)
          simp only [Nat.add_zero] at ol848
          have ol854 := RO.ld (P := Try.prog) (S711.row_ro (i := 3) rfl) hp816 qx812 (t := 85) (o := 0) (v := .int .u32 x812) (by omega) (by simp only [apart, ag_85, sz_85]; rfl)
          simp only [Nat.add_zero] at ol854
          have ol860 := RO.ld (P := Try.prog) (S711.row_ro (i := 3) rfl) hp828 qx824 (t := 85) (o := 0) (v := .int .u32 x824) (by omega) (by simp only [apart, ag_85, sz_85]; rfl)
          simp only [Nat.add_zero] at ol860
          obtain ⟨x861, qx861, wr895⟩ := obind wr895
          obtain ⟨i862, off863, oi864, hp865⟩ := RO.addr (P := Try.prog) sl_82 (S711.row_ro (i := 3) rfl) qx861
          have ol866 := RO.ld (P := Try.prog) (S711.row_ro (i := 3) rfl) hp865 qx861 (t := 85) (o := 0) (v := .int .u32 x861) (by omega) (by simp only [apart, ag_85, sz_85]; rfl)
          simp only [Nat.add_zero] at ol866
          have ol872 := RO.ld (P := Try.prog) (S711.row_ro (i := 3) rfl) hp725 qx721 (t := 85) (o := 0) (v := .int .u32 x721) (by omega) (by simp only [apart, ag_85, sz_85]; rfl)
          simp only [Nat.add_zero] at ol872
          have ol878 := RO.ld (P := Try.prog) (S711.row_ro (i := 3) rfl) hp755 qx751 (t := 85) (o := 0) (v := .int .u32 x751) (by omega) (by simp only [apart, ag_85, sz_85]; rfl)
          simp only [Nat.add_zero] at ol878
          have ol884 := RO.ld (P := Try.prog) (S711.row_ro (i := 3) rfl) hp767 qx763 (t := 85) (o := 0) (v := .int .u32 x763) (by omega) (by simp only [apart, ag_85, sz_85]; rfl)
          simp only [Nat.add_zero] at ol884
          obtain ⟨u885, h886, ob887, S888⟩ := Sep.build (P := Try.prog) sl_82 S711 [.int .u32 (IntKind.u32.wrap ((IntKind.u32.wrap ((IntKind.u32.wrap ((IntKind.u32.wrap ((IntKind.u32.wrap (x715 + (xorI .u32 (xorI .u32 y727 y735) y743))) + (xorI .u32 (andI .u32 x721 x751) (andI .u32 (IntKind.u32.wrap (4294967295 - x721)) x763)))) + x769)) + x775)) + (IntKind.u32.wrap ((xorI .u32 (xorI .u32 y788 y796) y804) + (xorI .u32 (xorI .u32 (andI .u32 x782 x812) (andI .u32 x782 x824)) (andI .u32 x812 x824)))))), .int .u32 x782, .int .u32 x812, .int .u32 x824, .int .u32 (IntKind.u32.wrap (x861 + (IntKind.u32.wrap ((IntKind.u32.wrap ((IntKind.u32.wrap ((IntKind.u32.wrap (x715 + (xorI .u32 (xorI .u32 y727 y735) y743))) + (xorI .u32 (andI .u32 x721 x751) (andI .u32 (IntKind.u32.wrap (4294967295 - x721)) x763)))) + x769)) + x775)))), .int .u32 x721, .int .u32 x751, .int .u32 x763] (([IntKind.u32.wrap ((IntKind.u32.wrap ((IntKind.u32.wrap ((IntKind.u32.wrap ((IntKind.u32.wrap (x715 + (xorI .u32 (xorI .u32 y727 y735) y743))) + (xorI .u32 (andI .u32 x721 x751) (andI .u32 (IntKind.u32.wrap (4294967295 - x721)) x763)))) + x769)) + x775)) + (IntKind.u32.wrap ((xorI .u32 (xorI .u32 y788 y796) y804) + (xorI .u32 (xorI .u32 (andI .u32 x782 x812) (andI .u32 x782 x824)) (andI .u32 x812 x824))))), x782, x812, x824, IntKind.u32.wrap (x861 + (IntKind.u32.wrap ((IntKind.u32.wrap ((IntKind.u32.wrap ((IntKind.u32.wrap (x715 + (xorI .u32 (xorI .u32 y727 y735) y743))) + (xorI .u32 (andI .u32 x721 x751) (andI .u32 (IntKind.u32.wrap (4294967295 - x721)) x763)))) + x769)) + x775))), x721, x751, x763] : List Int).map (cellI .u32)) rfl (by simp [cellI]) (by simp)
          have ob887 : abuildSlice Try.prog 82 8 [(0, .int .u32 (IntKind.u32.wrap ((IntKind.u32.wrap ((IntKind.u32.wrap ((IntKind.u32.wrap ((IntKind.u32.wrap (x715 + (xorI .u32 (xorI .u32 y727 y735) y743))) + (xorI .u32 (andI .u32 x721 x751) (andI .u32 (IntKind.u32.wrap (4294967295 - x721)) x763)))) + x769)) + x775)) + (IntKind.u32.wrap ((xorI .u32 (xorI .u32 y788 y796) y804) + (xorI .u32 (xorI .u32 (andI .u32 x782 x812) (andI .u32 x782 x824)) (andI .u32 x812 x824))))))), (1, .int .u32 x782), (2, .int .u32 x812), (3, .int .u32 x824), (4, .int .u32 (IntKind.u32.wrap (x861 + (IntKind.u32.wrap ((IntKind.u32.wrap ((IntKind.u32.wrap ((IntKind.u32.wrap (x715 + (xorI .u32 (xorI .u32 y727 y735) y743))) + (xorI .u32 (andI .u32 x721 x751) (andI .u32 (IntKind.u32.wrap (4294967295 - x721)) x763)))) + x769)) + x775))))), (5, .int .u32 x721), (6, .int .u32 x751), (7, .int .u32 x763)] h710 = some (u885, h886) := ob887
          have S890 : Sep h [] h886 [.row u6 85 1 (s.1.map (cellI .u32)), .row u15 85 1 (y11.map (cellI .u32)), .row u504 85 1 (y500.map (cellI .u32)), .row u709 85 1 (s.2.2.1.map (cellI .u32)), .row u885 85 1 (([IntKind.u32.wrap ((IntKind.u32.wrap ((IntKind.u32.wrap ((IntKind.u32.wrap ((IntKind.u32.wrap (x715 + (xorI .u32 (xorI .u32 y727 y735) y743))) + (xorI .u32 (andI .u32 x721 x751) (andI .u32 (IntKind.u32.wrap (4294967295 - x721)) x763)))) + x769)) + x775)) + (IntKind.u32.wrap ((xorI .u32 (xorI .u32 y788 y796) y804) + (xorI .u32 (xorI .u32 (andI .u32 x782 x812) (andI .u32 x782 x824)) (andI .u32 x812 x824))))), x782, x812, x824, IntKind.u32.wrap (x861 + (IntKind.u32.wrap ((IntKind.u32.wrap ((IntKind.u32.wrap ((IntKind.u32.wrap (x715 + (xorI .u32 (xorI .u32 y727 y735) y743))) + (xorI .u32 (andI .u32 x721 x751) (andI .u32 (IntKind.u32.wrap (4294967295 - x721)) x763)))) + x769)) + x775))), x721, x751, x763] : List Int).map (cellI .u32))] := S888
          refine AE_joinR (fun e h' => h886 = h' ∧ e.length = 195 ∧ e.getD 0 .undef = .str y20 ∧ e.getD 3 .undef = u6 ∧ e.getD 4 .undef = u15 ∧ e.getD 5 .undef = .int .i64 s.2.1 ∧ e.getD 6 .undef = u504 ∧ e.getD 7 .undef = u885 ∧ e.getD 8 .undef = .int .i64 s.2.2.2) (by
            simp only [↓WE, WA, WL, aop, ofValue, ofCell, isConst, abin, acall1, abuiltin, aun, AV.cells, AV.one, Nat.reduceAdd, Int.reduceLT, Int.reduceLE, ↓WD, W0, evalOp, Nat.reduceEqDiff, Nat.reduceLT, ↓reduceIte, reduceCtorEq, hl, e0, e3, e4, e5, e6, e7, e8, e9, e10, oi785, ol848, oi815, ol854, oi827, ol860, oi864, ol866, oi724, ol872, oi754, ol878, oi766, ol884, ob887]
            refine ⟨rfl, ?_, ?_, ?_, ?_, ?_, ?_, ?_, ?_⟩ <;> simp only [List.length_set, W0, Nat.reduceEqDiff, Nat.reduceLT, ↓reduceIte, hl, e0, e3, e4, e5, e6, e7, e8, e9, e10]) ?_
          rintro envg891 _ ⟨rfl, hl, e0, e3, e4, e5, e6, e7, e8⟩
          try simp only [↓WD, W0, evalOp, Nat.reduceEqDiff, Nat.reduceLT, ↓reduceIte, reduceCtorEq, hl, e0, e3, e4, e5, e6, e7, e8]
          rw [AW_region]
          refine AE_joinR (fun e h' => h886 = h' ∧ e.length = 195 ∧ e.getD 0 .undef = .str y20 ∧ e.getD 3 .undef = u6 ∧ e.getD 4 .undef = u15 ∧ e.getD 5 .undef = .int .i64 s.2.1 ∧ e.getD 6 .undef = u504 ∧ e.getD 7 .undef = u885 ∧ e.getD 8 .undef = .int .i64 (IntKind.i64.wrap (s.2.2.2 + 1))) (by
            simp only [↓WE, WA, WL, aop, ofValue, ofCell, isConst, abin, acall1, abuiltin, aun, AV.cells, AV.one, Nat.reduceAdd, Int.reduceLT, Int.reduceLE, ↓WD, W0, evalOp, Nat.reduceEqDiff, Nat.reduceLT, ↓reduceIte, reduceCtorEq, hl, e0, e3, e4, e5, e6, e7, e8]
            refine ⟨rfl, ?_, ?_, ?_, ?_, ?_, ?_, ?_, ?_⟩ <;> simp only [List.length_set, W0, Nat.reduceEqDiff, Nat.reduceLT, ↓reduceIte, hl, e0, e3, e4, e5, e6, e7, e8]) ?_
          rintro envg892 _ ⟨rfl, hl, e0, e3, e4, e5, e6, e7, e8⟩
          try simp only [↓WD, W0, evalOp, Nat.reduceEqDiff, Nat.reduceLT, ↓reduceIte, reduceCtorEq, hl, e0, e3, e4, e5, e6, e7, e8]
          obtain rfl := Option.some.inj wr895
          rw [KP_nil, QL_normal]
          refine ⟨_, rfl, u885, ?_, ?_, ?_, ?_, ?_, ?_, ?_, ?_, S890.pick [0, 1, 2, 4] (by decide) rfl⟩ <;> simp only [List.length_set, W0, Nat.reduceEqDiff, Nat.reduceLT, ↓reduceIte, hl, e0, e3, e4, e5, e6, e7, e8]
        · rw [if_neg c714] at wr895
          try simp only [↓WD, W0, evalOp, Nat.reduceEqDiff, Nat.reduceLT, ↓reduceIte, reduceCtorEq, hl, e0, e3, e4, e5, e6, e7, e8, e34]
          obtain rfl := Option.some.inj wr895
          rw [KP_nil, QL_exit]
          refine ⟨_, rfl, u709, rfl, ?_, ?_, ?_, ?_, ?_, ?_, S711.pick [0, 1, 3] (by decide) rfl⟩ <;> simp only [List.length_set, W0, Nat.reduceEqDiff, Nat.reduceLT, ↓reduceIte, hl, e0, e3, e4, e5, e6, e7, e8, e34]
      · refine ⟨u516, ?_, ?_, ?_, ?_, ?_, ?_, ?_, ?_, S520⟩ <;> simp only [List.length_set, W0, Nat.reduceEqDiff, Nat.reduceLT, ↓reduceIte, hl, e0, e3, e4, e5, e6, e7, e8]
      · rintro x envr895 h897 ⟨u896, rfl, hl, e0, e3, e4, e5, e7, S898⟩
        try simp only [↓WD, W0, evalOp, Nat.reduceEqDiff, Nat.reduceLT, ↓reduceIte, reduceCtorEq, hl, e0, e3, e4, e5, e7]
        rw [AW_region]
        refine AE_joinR (fun e h' => h897 = h' ∧ e.length = 195 ∧ e.getD 0 .undef = .str y20 ∧ e.getD 3 .undef = u6 ∧ e.getD 4 .undef = u15 ∧ e.getD 5 .undef = .int .i64 r895.2.1 ∧ e.getD 7 .undef = u896 ∧ e.getD 11 .undef = .int .i64 0) (by
          simp only [↓WE, WA, WL, aop, ofValue, ofCell, isConst, abin, acall1, abuiltin, aun, AV.cells, AV.one, Nat.reduceAdd, Int.reduceLT, Int.reduceLE, ↓WD, W0, evalOp, Nat.reduceEqDiff, Nat.reduceLT, ↓reduceIte, reduceCtorEq, hl, e0, e3, e4, e5, e7]
          refine ⟨rfl, ?_, ?_, ?_, ?_, ?_, ?_, ?_⟩ <;> simp only [List.length_set, W0, Nat.reduceEqDiff, Nat.reduceLT, ↓reduceIte, hl, e0, e3, e4, e5, e7]) ?_
        rintro envg899 _ ⟨rfl, hl, e0, e3, e4, e5, e7, e11⟩
        try simp only [↓WD, W0, evalOp, Nat.reduceEqDiff, Nat.reduceLT, ↓reduceIte, reduceCtorEq, hl, e0, e3, e4, e5, e7, e11]
        obtain ⟨r958, qr958, wr962⟩ := obind wr962
        refine AW_lift (L_ref04_Of_3 r895) (fun s e h' => e.length = 195 ∧ e.getD 0 .undef = .str y20 ∧ e.getD 3 .undef = u6 ∧ e.getD 4 .undef = u15 ∧ e.getD 5 .undef = .int .i64 r895.2.1 ∧ e.getD 7 .undef = u896 ∧ e.getD 11 .undef = .int .i64 s.2 ∧ Sep h [] h' [.row u6 85 1 (s.1.map (cellI .u32)), .row u15 85 1 (y11.map (cellI .u32)), .row u896 85 1 (r895.2.2.map (cellI .u32))]) (fun r958 x e h' => x = .exit 4 ∧ e.length = 195 ∧ e.getD 0 .undef = .str y20 ∧ e.getD 3 .undef = u6 ∧ e.getD 4 .undef = u15 ∧ e.getD 5 .undef = .int .i64 r895.2.1 ∧ Sep h [] h' [.row u6 85 1 (r958.map (cellI .u32)), .row u15 85 1 (y11.map (cellI .u32))]) qr958 (by omega) ?_ ?_ ?_
        · rintro s envr958 h929 or958 ⟨hl, e0, e3, e4, e5, e7, e11, S930⟩ wr958
          rw [L_ref04_Of_3] at wr958
          try simp only [↓WD, W0, evalOp, Nat.reduceEqDiff, Nat.reduceLT, ↓reduceIte, reduceCtorEq, hl, e0, e3, e4, e5, e7, e11]
          rw [AW_region]
          refine AE_joinR (fun e h' => h929 = h' ∧ e.length = 195 ∧ e.getD 0 .undef = .str y20 ∧ e.getD 3 .undef = u6 ∧ e.getD 4 .undef = u15 ∧ e.getD 5 .undef = .int .i64 r895.2.1 ∧ e.getD 7 .undef = u896 ∧ e.getD 11 .undef = .int .i64 s.2 ∧ e.getD 148 .undef = .bool (decide (s.2 < 8))) (by
            simp only [↓WE, WA, WL, aop, ofValue, ofCell, isConst, abin, acall1, abuiltin, aun, AV.cells, AV.one, Nat.reduceAdd, Int.reduceLT, Int.reduceLE, ↓WD, W0, evalOp, Nat.reduceEqDiff, Nat.reduceLT, ↓reduceIte, reduceCtorEq, hl, e0, e3, e4, e5, e7, e11]
            refine ⟨rfl, ?_, ?_, ?_, ?_, ?_, ?_, ?_, ?_⟩ <;> simp only [List.length_set, W0, Nat.reduceEqDiff, Nat.reduceLT, ↓reduceIte, hl, e0, e3, e4, e5, e7, e11]) ?_
          rintro envg931 _ ⟨rfl, hl, e0, e3, e4, e5, e7, e11, e148⟩
          try simp only [↓WD, W0, evalOp, Nat.reduceEqDiff, Nat.reduceLT, ↓reduceIte, reduceCtorEq, hl, e0, e3, e4, e5, e7, e11, e148]
          refine CondK_dec (fun c933 => ?_) (fun c933 => ?_)
          · rw [if_pos c933] at wr958
            try simp only [↓WD, W0, evalOp, Nat.reduceEqDiff, Nat.reduceLT, ↓reduceIte, reduceCtorEq, hl, e0, e3, e4, e5, e7, e11, e148]
            rw [AW_drawn, AE_drawnK (Ksub.cons k59 (Ksub.cons k61 (Ksub.cons k98 Ksub.nil))) (by kernel_rfl)]
            obtain ⟨x934, qx934, wr958⟩ := obind wr958
            obtain ⟨i935, off936, oi937, hp938⟩ := RO.addr (P := Try.prog) sl_82 (S930.row_ro (i := 0) rfl) qx934
            have ol939 := RO.ld (P := Try.prog) (S930.row_ro (i := 0) rfl) hp938 qx934 (t := 85) (o := 0) (v := .int .u32 x934) (by omega) (by simp only [apart, ag_85, sz_85]; rfl)
            simp only [Nat.add_zero] at ol939
            obtain ⟨x940, qx940, wr958⟩ := obind wr958
            obtain ⟨i941, off942, oi943, hp944⟩ := RO.addr (P := Try.prog) sl_82 (S930.row_ro (i := 2) rfl) qx940
            have ol945 := RO.ld (P := Try.prog) (S930.row_ro (i := 2) rfl) hp944 qx940 (t := 85) (o := 0) (v := .int .u32 x940) (by omega) (by simp only [apart, ag_85, sz_85]; rfl)
            simp only [Nat.add_zero] at ol945
            obtain ⟨y954, qy954, wr958⟩ := obind wr958
            obtain ⟨h951, os952, S953⟩ := S930.rstore (P := Try.prog) 0 rfl hp938 (x := x934) (z := IntKind.u32.wrap (x934 + x940)) (by first | exact qx934 | (simp only [idxL] at *; assumption)) (t := 85) (o := 0) (v := .int .u32 (IntKind.u32.wrap (x934 + x940))) rfl sz_85 rfl (by simp) rfl qy954
            simp only [Nat.add_zero] at os952
            have S955 : Sep h [] h951 [.row u6 85 1 (y954.map (cellI .u32)), .row u15 85 1 (y11.map (cellI .u32)), .row u896 85 1 (r895.2.2.map (cellI .u32))] := S953
            refine AE_joinR (fun e h' => h951 = h' ∧ e.length = 195 ∧ e.getD 0 .undef = .str y20 ∧ e.getD 3 .undef = u6 ∧ e.getD 4 .undef = u15 ∧ e.getD 5 .undef = .int .i64 r895.2.1 ∧ e.getD 7 .undef = u896 ∧ e.getD 11 .undef = .int .i64 s.2) (by
              simp only [↓WE, WA, WL, aop, ofValue, ofCell, isConst, abin, acall1, abuiltin, aun, AV.cells, AV.one, Nat.reduceAdd, Int.reduceLT, Int.reduceLE, ↓WD, W0, evalOp, Nat.reduceEqDiff, Nat.reduceLT, ↓reduceIte, reduceCtorEq, hl, e0, e3, e4, e5, e7, e11, e148, oi937, ol939, oi943, ol945, os952]
              refine ⟨rfl, ?_, ?_, ?_, ?_, ?_, ?_, ?_⟩ <;> simp only [List.length_set, W0, Nat.reduceEqDiff, Nat.reduceLT, ↓reduceIte, hl, e0, e3, e4, e5, e7, e11, e148]) ?_
            rintro envg956 _ ⟨rfl, hl, e0, e3, e4, e5, e7, e11⟩
            try simp only [↓WD, W0, evalOp, Nat.reduceEqDiff, Nat.reduceLT, ↓reduceIte, reduceCtorEq, hl, e0, e3, e4, e5, e7, e11]
            rw [AW_region]
            refine AE_joinR (fun e h' => h951 = h' ∧ e.length = 195 ∧ e.getD 0 .undef = .str y20 ∧ e.getD 3 .undef = u6 ∧ e.getD 4 .undef = u15 ∧ e.getD 5 .undef = .int .i64 r895.2.1 ∧ e.getD 7 .undef = u896 ∧ e.getD 11 .undef = .int .i64 (IntKind.i64.wrap (s.2 + 1))) (by
              simp only [↓WE, WA, WL, aop, ofValue, ofCell, isConst, abin, acall1, abuiltin, aun, AV.cells, AV.one, Nat.reduceAdd, Int.reduceLT, Int.reduceLE, ↓WD, W0, evalOp, Nat.reduceEqDiff, Nat.reduceLT, ↓reduceIte, reduceCtorEq, hl, e0, e3, e4, e5, e7, e11]
              refine ⟨rfl, ?_, ?_, ?_, ?_, ?_, ?_, ?_⟩ <;> simp only [List.length_set, W0, Nat.reduceEqDiff, Nat.reduceLT, ↓reduceIte, hl, e0, e3, e4, e5, e7, e11]) ?_
            rintro envg957 _ ⟨rfl, hl, e0, e3, e4, e5, e7, e11⟩
            try simp only [↓WD, W0, evalOp, Nat.reduceEqDiff, Nat.reduceLT, ↓reduceIte, reduceCtorEq, hl, e0, e3, e4, e5, e7, e11]
            obtain rfl := Option.some.inj wr958
            rw [KP_nil, QL_normal]
            refine ⟨_, rfl, ?_, ?_, ?_, ?_, ?_, ?_, ?_, S955⟩ <;> simp only [List.length_set, W0, Nat.reduceEqDiff, Nat.reduceLT, ↓reduceIte, hl, e0, e3, e4, e5, e7, e11]
          · rw [if_neg c933] at wr958
            try simp only [↓WD, W0, evalOp, Nat.reduceEqDiff, Nat.reduceLT, ↓reduceIte, reduceCtorEq, hl, e0, e3, e4, e5, e7, e11, e148]
            obtain rfl := Option.some.inj wr958
            rw [KP_nil, QL_exit]
            refine ⟨_, rfl, rfl, ?_, ?_, ?_, ?_, ?_, S930.pick [0, 1] (by decide) rfl⟩ <;> simp only [List.length_set, W0, Nat.reduceEqDiff, Nat.reduceLT, ↓reduceIte, hl, e0, e3, e4, e5, e7, e11, e148]
        · refine ⟨?_, ?_, ?_, ?_, ?_, ?_, ?_, S898⟩ <;> simp only [List.length_set, W0, Nat.reduceEqDiff, Nat.reduceLT, ↓reduceIte, hl, e0, e3, e4, e5, e7, e11]
        · rintro x envr958 h959 ⟨rfl, hl, e0, e3, e4, e5, S960⟩
          try simp only [↓WD, W0, evalOp, Nat.reduceEqDiff, Nat.reduceLT, ↓reduceIte, reduceCtorEq, hl, e0, e3, e4, e5]
          rw [AW_region]
          refine AE_joinR (fun e h' => h959 = h' ∧ e.length = 195 ∧ e.getD 0 .undef = .str y20 ∧ e.getD 3 .undef = u6 ∧ e.getD 4 .undef = u15 ∧ e.getD 5 .undef = .int .i64 (IntKind.i64.wrap (r895.2.1 + 64))) (by
            simp only [↓WE, WA, WL, aop, ofValue, ofCell, isConst, abin, acall1, abuiltin, aun, AV.cells, AV.one, Nat.reduceAdd, Int.reduceLT, Int.reduceLE, ↓WD, W0, evalOp, Nat.reduceEqDiff, Nat.reduceLT, ↓reduceIte, reduceCtorEq, hl, e0, e3, e4, e5]
            refine ⟨rfl, ?_, ?_, ?_, ?_, ?_⟩ <;> simp only [List.length_set, W0, Nat.reduceEqDiff, Nat.reduceLT, ↓reduceIte, hl, e0, e3, e4, e5]) ?_
          rintro envg961 _ ⟨rfl, hl, e0, e3, e4, e5⟩
          try simp only [↓WD, W0, evalOp, Nat.reduceEqDiff, Nat.reduceLT, ↓reduceIte, reduceCtorEq, hl, e0, e3, e4, e5]
          obtain rfl := Option.some.inj wr962
          rw [KP_nil, QL_normal]
          refine ⟨_, rfl, ?_, ?_, ?_, ?_, ?_, S960⟩ <;> simp only [List.length_set, W0, Nat.reduceEqDiff, Nat.reduceLT, ↓reduceIte, hl, e0, e3, e4, e5]
    · rw [if_neg c498] at wr962
      try simp only [↓WD, W0, evalOp, Nat.reduceEqDiff, Nat.reduceLT, ↓reduceIte, reduceCtorEq, hl, e0, e3, e4, e5, e21]
      obtain rfl := Option.some.inj wr962
      rw [KP_nil, QL_exit]
      refine ⟨_, rfl, rfl, ?_, ?_, S494.pick [0] (by decide) rfl⟩ <;> simp only [List.length_set, W0, Nat.reduceEqDiff, Nat.reduceLT, ↓reduceIte, hl, e0, e3, e4, e5, e21]
  · refine ⟨?_, ?_, ?_, ?_, ?_, S18⟩ <;> simp only [List.length_set, W0, Nat.reduceEqDiff, Nat.reduceLT, ↓reduceIte, hl, e0, e3, e4, e5]
  · rintro x envr962 h963 ⟨rfl, hl, e3, S964⟩
    try simp only [↓WD, W0, evalOp, Nat.reduceEqDiff, Nat.reduceLT, ↓reduceIte, reduceCtorEq, hl, e3]
    rw [AW_region]
    refine AE_joinR (fun e h' => h963 = h' ∧ e.length = 195 ∧ e.getD 3 .undef = u6 ∧ e.getD 12 .undef = .val (.slice none 0 0)) (by
      simp only [↓WE, WA, WL, aop, ofValue, ofCell, isConst, abin, acall1, abuiltin, aun, AV.cells, AV.one, Nat.reduceAdd, Int.reduceLT, Int.reduceLE, ↓WD, W0, evalOp, Nat.reduceEqDiff, Nat.reduceLT, ↓reduceIte, reduceCtorEq, hl, e3]
      refine ⟨rfl, ?_, ?_, ?_⟩ <;> simp only [List.length_set, W0, Nat.reduceEqDiff, Nat.reduceLT, ↓reduceIte, hl, e3]) ?_
    rintro envg965 _ ⟨rfl, hl, e3, e12⟩
    try simp only [↓WD, W0, evalOp, Nat.reduceEqDiff, Nat.reduceLT, ↓reduceIte, reduceCtorEq, hl, e3, e12]
    rw [AW_region]
    refine AE_joinR (fun e h' => h963 = h' ∧ e.length = 195 ∧ e.getD 3 .undef = u6 ∧ e.getD 12 .undef = .val (.slice none 0 0) ∧ e.getD 13 .undef = .int .i64 0) (by
      simp only [↓WE, WA, WL, aop, ofValue, ofCell, isConst, abin, acall1, abuiltin, aun, AV.cells, AV.one, Nat.reduceAdd, Int.reduceLT, Int.reduceLE, ↓WD, W0, evalOp, Nat.reduceEqDiff, Nat.reduceLT, ↓reduceIte, reduceCtorEq, hl, e3, e12]
      refine ⟨rfl, ?_, ?_, ?_, ?_⟩ <;> simp only [List.length_set, W0, Nat.reduceEqDiff, Nat.reduceLT, ↓reduceIte, hl, e3, e12]) ?_
    rintro envg966 _ ⟨rfl, hl, e3, e12, e13⟩
    try simp only [↓WD, W0, evalOp, Nat.reduceEqDiff, Nat.reduceLT, ↓reduceIte, reduceCtorEq, hl, e3, e12, e13]
    have S1020 : Sep h [] h963 [.row u6 85 1 (r962.map (cellI .u32)), .row (.val (.slice none 0 0)) 5 1 (([] : List Int).map (cellI .u8))] := S964.nilrow 5 1
    obtain ⟨r1077, qr1077, hF⟩ := obind hF
    refine AW_lift (L_ref04_Of_4 r962) (fun s e h' => ∃ (u1024 : AV), e.length = 195 ∧ e.getD 3 .undef = u6 ∧ e.getD 12 .undef = u1024 ∧ e.getD 13 .undef = .int .i64 s.2 ∧ Sep h [] h' [.row u6 85 1 (r962.map (cellI .u32)), .row u1024 5 1 (s.1.map (cellI .u8))]) (fun r1077 x e h' => ∃ (u1078 : AV), x = .exit 6 ∧ e.length = 195 ∧ e.getD 12 .undef = u1078 ∧ Sep h [] h' [.row u1078 5 1 (r1077.map (cellI .u8))]) qr1077 (by omega) ?_ ?_ ?_
    · rintro s envr1077 h1025 or1077 ⟨u1024, hl, e3, e12, e13, S1026⟩ wr1077
      rw [L_ref04_Of_4] at wr1077
      try simp only [↓WD, W0, evalOp, Nat.reduceEqDiff, Nat.reduceLT, ↓reduceIte, reduceCtorEq, hl, e3, e12, e13]
      rw [AW_region]
      refine AE_joinR (fun e h' => h1025 = h' ∧ e.length = 195 ∧ e.getD 3 .undef = u6 ∧ e.getD 12 .undef = u1024 ∧ e.getD 13 .undef = .int .i64 s.2 ∧ e.getD 164 .undef = .bool (decide (s.2 < 8))) (by
        simp only [↓WE, WA, WL, aop, ofValue, ofCell, isConst, abin, acall1, abuiltin, aun, AV.cells, AV.one, Nat.reduceAdd, Int.reduceLT, Int.reduceLE, ↓WD, W0, evalOp, Nat.reduceEqDiff, Nat.reduceLT, ↓reduceIte, reduceCtorEq, hl, e3, e12, e13]
        refine ⟨rfl, ?_, ?_, ?_, ?_, ?_⟩ <;> simp only [List.length_set, W0, Nat.reduceEqDiff, Nat.reduceLT, ↓reduceIte, hl, e3, e12, e13]) ?_
      rintro envg1027 _ ⟨rfl, hl, e3, e12, e13, e164⟩
      try simp only [↓WD, W0, evalOp, Nat.reduceEqDiff, Nat.reduceLT, ↓reduceIte, reduceCtorEq, hl, e3, e12, e13, e164]
      refine CondK_dec (fun c1029 => ?_) (fun c1029 => ?_)
      · rw [if_pos c1029] at wr1077
        try simp only [↓WD, W0, evalOp, Nat.reduceEqDiff, Nat.reduceLT, ↓reduceIte, reduceCtorEq, hl, e3, e12, e13, e164]
        rw [AW_drawn, AE_drawnK (Ksub.cons k59 (Ksub.cons k61 (Ksub.cons k98 Ksub.nil))) (by kernel_rfl)]
        obtain ⟨x1030, qx1030, wr1077⟩ := obind wr1077
        obtain ⟨i1031, off1032, oi1033, hp1034⟩ := RO.addr (P := Try.prog) sl_82 (S1026.row_ro (i := 0) rfl) qx1030
        have ol1035 := RO.ld (P := Try.prog) (S1026.row_ro (i := 0) rfl) hp1034 qx1030 (t := 85) (o := 0) (v := .int .u32 x1030) (by omega) (by simp only [apart, ag_85, sz_85]; rfl)
        simp only [Nat.add_zero] at ol1035
        obtain ⟨y1036, qy1036, wr1077⟩ := obind wr1077
        have oy1036 := shr_int (k := .u32) qy1036
        have oc1037 := fun g : AH => aconv_int (P := Try.prog) (h := g) (n := y1036) (k' := .u32) Try.underlying85 Try.underlying5
        have ol1043 := RO.ld (P := Try.prog) (S1026.row_ro (i := 0) rfl) hp1034 qx1030 (t := 85) (o := 0) (v := .int .u32 x1030) (by omega) (by simp only [apart, ag_85, sz_85]; rfl)
        simp only [Nat.add_zero] at ol1043
        obtain ⟨y1044, qy1044, wr1077⟩ := obind wr1077
        have oy1044 := shr_int (k := .u32) qy1044
        have oc1045 := fun g : AH => aconv_int (P := Try.prog) (h := g) (n := y1044) (k' := .u32) Try.underlying85 Try.underlying5
        have ol1051 := RO.ld (P := Try.prog) (S1026.row_ro (i := 0) rfl) hp1034 qx1030 (t := 85) (o := 0) (v := .int .u32 x1030) (by omega) (by simp only [apart, ag_85, sz_85]; rfl)
        simp only [Nat.add_zero] at ol1051
        obtain ⟨y1052, qy1052, wr1077⟩ := obind wr1077
        have oy1052 := shr_int (k := .u32) qy1052
        have oc1053 := fun g : AH => aconv_int (P := Try.prog) (h := g) (n := y1052) (k' := .u32) Try.underlying85 Try.underlying5
        have ol1059 := RO.ld (P := Try.prog) (S1026.row_ro (i := 0) rfl) hp1034 qx1030 (t := 85) (o := 0) (v := .int .u32 x1030) (by omega) (by simp only [apart, ag_85, sz_85]; rfl)
        simp only [Nat.add_zero] at ol1059
        have oc1060 := fun g : AH => aconv_int (P := Try.prog) (h := g) (n := x1030) (k' := .u32) Try.underlying85 Try.underlying5
        obtain ⟨u1061, h1062, ob1063, S1064⟩ := Sep.build (P := Try.prog) sl_28 S1026 [.int .u8 (IntKind.u8.wrap y1036), .int .u8 (IntKind.u8.wrap y1044), .int .u8 (IntKind.u8.wrap y1052), .int .u8 (IntKind.u8.wrap x1030)] (([IntKind.u8.wrap y1036, IntKind.u8.wrap y1044, IntKind.u8.wrap y1052, IntKind.u8.wrap x1030] : List Int).map (cellI .u8)) rfl (by simp [cellI]) (by simp)
        have ob1063 : abuildSlice Try.prog 28 4 [(0, .int .u8 (IntKind.u8.wrap y1036)), (1, .int .u8 (IntKind.u8.wrap y1044)), (2, .int .u8 (IntKind.u8.wrap y1052)), (3, .int .u8 (IntKind.u8.wrap x1030))] h1025 = some (u1061, h1062) := ob1063
        have S1066 : Sep h [] h1062 [.row u6 85 1 (r962.map (cellI .u32)), .row u1024 5 1 (s.1.map (cellI .u8)), .row u1061 5 1 (([IntKind.u8.wrap y1036, IntKind.u8.wrap y1044, IntKind.u8.wrap y1052, IntKind.u8.wrap x1030] : List Int).map (cellI .u8))] := S1064
        obtain ⟨zs1067, qzs1067, wr1077⟩ := obind wr1077
        obtain ⟨u1068, h1069, op1070, S1071⟩ := Sep.append (P := Try.prog) (t' := 28) sl_28 (by rw [Try.underlying28]; rfl) S1066 1 rfl (S1066.row_ro (i := 2) rfl) (fun _ => rfl) qzs1067
        have S1072 : Sep h [] h1069 [.row u6 85 1 (r962.map (cellI .u32)), .row u1068 5 1 (zs1067.map (cellI .u8)), .row u1061 5 1 (([IntKind.u8.wrap y1036, IntKind.u8.wrap y1044, IntKind.u8.wrap y1052, IntKind.u8.wrap x1030] : List Int).map (cellI .u8))] := S1071
        refine AE_joinR (fun e h' => h1069 = h' ∧ e.length = 195 ∧ e.getD 3 .undef = u6 ∧ e.getD 12 .undef = u1068 ∧ e.getD 13 .undef = .int .i64 s.2) (by
          simp only [↓WE, WA, WL, aop, ofValue, ofCell, isConst, abin, acall1, abuiltin, aun, AV.cells, AV.one, Nat.reduceAdd, Int.reduceLT, Int.reduceLE, ↓WD, W0, evalOp, Nat.reduceEqDiff, Nat.reduceLT, ↓reduceIte, reduceCtorEq, hl, e3, e12, e13, e164, oi1033, ol1035, oy1036, oc1037, ol1043, oy1044, oc1045, ol1051, oy1052, oc1053, ol1059, oc1060, ob1063, op1070]
          refine ⟨rfl, ?_, ?_, ?_, ?_⟩ <;> simp only [List.length_set, W0, Nat.reduceEqDiff, Nat.reduceLT, ↓reduceIte, hl, e3, e12, e13, e164]) ?_
        rintro envg1073 _ ⟨rfl, hl, e3, e12, e13⟩
        try simp only [↓WD, W0, evalOp, Nat.reduceEqDiff, Nat.reduceLT, ↓reduceIte, reduceCtorEq, hl, e3, e12, e13]
        rw [AW_region]
        refine AE_joinR (fun e h' => h1069 = h' ∧ e.length = 195 ∧ e.getD 3 .undef = u6 ∧ e.getD 12 .undef = u1068 ∧ e.getD 13 .undef = .int .i64 (IntKind.i64.wrap (s.2 + 1))) (by
          simp only [↓WE, WA, WL, aop, ofValue, ofCell, isConst, abin, acall1, abuiltin, aun, AV.cells, AV.one, Nat.reduceAdd, Int.reduceLT, Int.reduceLE, ↓WD, W0, evalOp, Nat.reduceEqDiff, Nat.reduceLT, ↓reduceIte, reduceCtorEq, hl, e3, e12, e13]
          refine ⟨rfl, ?_, ?_, ?_, ?_⟩ <;> simp only [List.length_set, W0, Nat.reduceEqDiff, Nat.reduceLT, ↓reduceIte, hl, e3, e12, e13]) ?_
        rintro envg1074 _ ⟨rfl, hl, e3, e12, e13⟩
        try simp only [↓WD, W0, evalOp, Nat.reduceEqDiff, Nat.reduceLT, ↓reduceIte, reduceCtorEq, hl, e3, e12, e13]
        obtain rfl := Option.some.inj wr1077
        rw [KP_nil, QL_normal]
        refine ⟨_, rfl, u1068, ?_, ?_, ?_, ?_, S1072.pick [0, 1] (by decide) rfl⟩ <;> simp only [List.length_set, W0, Nat.reduceEqDiff, Nat.reduceLT, ↓reduceIte, hl, e3, e12, e13]
      · rw [if_neg c1029] at wr1077
        try simp only [↓WD, W0, evalOp, Nat.reduceEqDiff, Nat.reduceLT, ↓reduceIte, reduceCtorEq, hl, e3, e12, e13, e164]
        obtain rfl := Option.some.inj wr1077
        rw [KP_nil, QL_exit]
        refine ⟨_, rfl, u1024, rfl, ?_, ?_, S1026.pick [1] (by decide) rfl⟩ <;> simp only [List.length_set, W0, Nat.reduceEqDiff, Nat.reduceLT, ↓reduceIte, hl, e3, e12, e13, e164]
    · refine ⟨.val (.slice none 0 0), ?_, ?_, ?_, ?_, S1020⟩ <;> simp only [List.length_set, W0, Nat.reduceEqDiff, Nat.reduceLT, ↓reduceIte, hl, e3, e12, e13]
    · rintro x envr1077 h1079 ⟨u1078, rfl, hl, e12, S1080⟩
      try simp only [↓WD, W0, evalOp, Nat.reduceEqDiff, Nat.reduceLT, ↓reduceIte, reduceCtorEq, hl, e12]
      rw [AW_region]
      have oc1081 := RO.str (P := Try.prog) Try.underlying28 Try.underlying5 Try.underlying9 (S1080.row_ro (i := 0) rfl)
      refine AE_joinR (fun e h' => h1079 = h' ∧ e.length = 195 ∧ e.getD 2 .undef = .str (r1077.map byt)) (by
        simp only [↓WE, WA, WL, aop, ofValue, ofCell, isConst, abin, acall1, abuiltin, aun, AV.cells, AV.one, Nat.reduceAdd, Int.reduceLT, Int.reduceLE, ↓WD, W0, evalOp, Nat.reduceEqDiff, Nat.reduceLT, ↓reduceIte, reduceCtorEq, hl, e12, oc1081]
        refine ⟨rfl, ?_, ?_⟩ <;> simp only [List.length_set, W0, Nat.reduceEqDiff, Nat.reduceLT, ↓reduceIte, hl, e12]) ?_
      rintro envg1082 _ ⟨rfl, hl, e2⟩
      try simp only [↓WD, W0, evalOp, Nat.reduceEqDiff, Nat.reduceLT, ↓reduceIte, reduceCtorEq, hl, e2]
      refine KP_ret (vs := [.str (r1077.map byt)]) (by simp only [aresults, aresult, gs, List.length_set, Nat.reduceEqDiff, Nat.reduceLT, ↓reduceIte, hl, e2]) ?_
      obtain rfl := Option.some.inj hF
      exact rfl
theorem W_sha_first {K : PureK} (n62 : K 62 = none) (m : Nat) (hm : NF + 1 ≤ m) (h : AH)  {r : GA8_u32} (hF : F_sha_first  = some r) :
    AR (acall Try.prog (hooksOf K) (drawnOf Try.prog (tabOf K)) m 62 [] h) (fun v h' => v = .agg [.int .u32 r.x0, .int .u32 r.x1, .int .u32 r.x2, .int .u32 r.x3, .int .u32 r.x4, .int .u32 r.x5, .int .u32 r.x6, .int .u32 r.x7]) := by
  obtain ⟨m, rfl⟩ : ∃ k, m = k + 1 := ⟨m - 1, by omega⟩
  refine AR_call (hooksOf_none n62) Try.func62 rfl _ _ fun env hl he => ?_
  simp only [Try.f62] at hl ⊢
  simp only [List.length_cons, List.length_nil, Nat.reduceAdd, Nat.reduceSub] at hl
  clear he
  have S0 : Sep h [] h [] := Sep.nil h
  rw [F_sha_first] at hF
  try simp only [↓WD, W0, evalOp, Nat.reduceEqDiff, Nat.reduceLT, ↓reduceIte, reduceCtorEq, hl]
  rw [AW_region]
  obtain ⟨i1, h2, oa3, S4⟩ := S0.alloc 88 [.int .u32 0, .int .u32 0, .int .u32 0, .int .u32 0, .int .u32 0, .int .u32 0, .int .u32 0, .int .u32 0]
  have S6 : Sep h [] h2 [.blk i1 ([0, 0, 0, 0, 0, 0, 0, 0].map (AV.int .u32)) 88] := S4
  refine AE_joinR (fun e h' => h2 = h' ∧ e.length = 2 ∧ e.getD 0 .undef = .ptr i1 0) (by
    simp only [↓WE, WA, WL, aop, ofValue, ofCell, isConst, abin, acall1, abuiltin, aun, AV.cells, AV.one, Nat.reduceAdd, Int.reduceLT, Int.reduceLE, ↓WD, W0, evalOp, Nat.reduceEqDiff, Nat.reduceLT, ↓reduceIte, reduceCtorEq, hl, zero_88, oa3]
    refine ⟨rfl, ?_, ?_⟩ <;> simp only [List.length_set, W0, Nat.reduceEqDiff, Nat.reduceLT, ↓reduceIte, hl]) ?_
  rintro envg7 _ ⟨rfl, hl, e0⟩
  try simp only [↓WD, W0, evalOp, Nat.reduceEqDiff, Nat.reduceLT, ↓reduceIte, reduceCtorEq, hl, e0]
  rw [AW_region]
  obtain ⟨_, q11, hF⟩ := obind hF
  obtain ⟨_, q12, hF⟩ := obind hF
  obtain ⟨h8, os9, S10⟩ := S6.storeAll (P := Try.prog) 0 rfl (t := 88) sz_88 q11 q12
  simp only [List.map_cons, List.map_nil] at os9
  have S13 : Sep h [] h8 [.blk i1 ([1779033703, 3144134277, 1013904242, 2773480762, 1359893119, 2600822924, 528734635, 1541459225].map (AV.int .u32)) 88] := S10
  refine AE_joinR (fun e h' => h8 = h' ∧ e.length = 2 ∧ e.getD 0 .undef = .ptr i1 0) (by
    simp only [↓WE, WA, WL, aop, ofValue, ofCell, isConst, abin, acall1, abuiltin, aun, AV.cells, AV.one, Nat.reduceAdd, Int.reduceLT, Int.reduceLE, ↓WD, W0, evalOp, Nat.reduceEqDiff, Nat.reduceLT, ↓reduceIte, reduceCtorEq, hl, e0, bd_88_0_1_2_3_4_5_6_7, os9]
    refine ⟨rfl, ?_, ?_⟩ <;> simp only [List.length_set, W0, Nat.reduceEqDiff, Nat.reduceLT, ↓reduceIte, hl, e0]) ?_
  rintro envg14 _ ⟨rfl, hl, e0⟩
  try simp only [↓WD, W0, evalOp, Nat.reduceEqDiff, Nat.reduceLT, ↓reduceIte, reduceCtorEq, hl, e0]
  have ol15 := S13.load (P := Try.prog) 0 rfl (t := 88) (off := 0) (v := .agg [.int .u32 1779033703, .int .u32 3144134277, .int .u32 1013904242, .int .u32 2773480762, .int .u32 1359893119, .int .u32 2600822924, .int .u32 528734635, .int .u32 1541459225]) (by simp only [apart, ag_88, sz_88, List.map_cons, List.map_nil]; rfl)
  refine KP_ret (vs := [.agg [.int .u32 1779033703, .int .u32 3144134277, .int .u32 1013904242, .int .u32 2773480762, .int .u32 1359893119, .int .u32 2600822924, .int .u32 528734635, .int .u32 1541459225]]) (by simp only [aresults, aresult, gs, List.length_set, Nat.reduceEqDiff, Nat.reduceLT, ↓reduceIte, hl, e0, ol15]) ?_
  obtain rfl := Option.some.inj hF
  exact rfl
theorem W_sha_added {K : PureK} (n99 : K 99 = none) (m : Nat) (hm : NF + 1 ≤ m) (h : AH)  {r : (List Int)} (hF : F_sha_added  = some r) :
    AR (acall Try.prog (hooksOf K) (drawnOf Try.prog (tabOf K)) m 99 [] h) (fun v h' => ∃ w0 : Nat, v = .ptr w0 0 ∧ Sep h [] h' [.blk w0 (r.map (AV.int .u32)) 147]) := by
  obtain ⟨m, rfl⟩ : ∃ k, m = k + 1 := ⟨m - 1, by omega⟩
  obtain ⟨i, h1, oa, S⟩ := (Sep.nil h).alloc 147 (KL_99.map (AV.int .u32))
  have e : acall Try.prog (hooksOf K) (drawnOf Try.prog (tabOf K)) (m + 1) 99 [] h = some (anew 147 (KL_99.map (AV.int .u32)) h) :=
    acall_succ (hooksOf_none n99) Try.func99 (c := Try.f99.body.getD .skip) (by kernel_rfl) [] h (by kernel_rfl)
  rw [oa] at e
  obtain rfl : KL_99 = r := Option.some.inj hF
  rw [e]
  exact ⟨i, rfl, S⟩
theorem W_math_bits_RotateLeft32 {K : PureK} (n134 : K 134 = none) (m : Nat) (hm : NF + 1 ≤ m) (h : AH) (x_ : Int) (k : Int) {r : Int} (hF : F_math_bits_RotateLeft32 x_ k = some r) :
    AR (acall Try.prog (hooksOf K) (drawnOf Try.prog (tabOf K)) m 134 [.int .u32 x_, .int .i64 k] h) (fun v h' => v = .int .u32 r) := by
  obtain ⟨m, rfl⟩ : ∃ k, m = k + 1 := ⟨m - 1, by omega⟩
  refine AR_call (hooksOf_none n134) Try.func134 rfl _ _ fun env hl he => ?_
  have e0 := he 0
  have e1 := he 1
  simp only [List.getD_cons_zero, List.getD_cons_succ] at e0 e1
  simp only [Try.f134] at hl ⊢
  simp only [List.length_cons, List.length_nil, Nat.reduceAdd, Nat.reduceSub] at hl
  clear he
  have S0 : Sep h [] h [] := Sep.nil h
  rw [F_math_bits_RotateLeft32] at hF
  try simp only [↓WD, W0, evalOp, Nat.reduceEqDiff, Nat.reduceLT, ↓reduceIte, reduceCtorEq, hl, e0, e1]
  rw [AW_region]
  refine AE_joinR (fun e h' => h = h' ∧ e.length = 17 ∧ e.getD 0 .undef = .int .u32 x_ ∧ e.getD 1 .undef = .int .i64 k) (by
    simp only [↓WE, WA, WL, aop, ofValue, ofCell, isConst, abin, acall1, abuiltin, aun, AV.cells, AV.one, Nat.reduceAdd, Int.reduceLT, Int.reduceLE, ↓WD, W0, evalOp, Nat.reduceEqDiff, Nat.reduceLT, ↓reduceIte, reduceCtorEq, hl, e0, e1]
    refine ⟨rfl, ?_, ?_, ?_⟩ <;> simp only [List.length_set, W0, Nat.reduceEqDiff, Nat.reduceLT, ↓reduceIte, hl, e0, e1]) ?_
  rintro envg1 _ ⟨rfl, hl, e0, e1⟩
  try simp only [↓WD, W0, evalOp, Nat.reduceEqDiff, Nat.reduceLT, ↓reduceIte, reduceCtorEq, hl, e0, e1]
  rw [AW_region]
  have oc2 := fun g : AH => aconv_int (P := Try.prog) (h := g) (n := k) (k' := .i64) Try.underlying3 Try.underlying25
  refine AE_joinR (fun e h' => h = h' ∧ e.length = 17 ∧ e.getD 0 .undef = .int .u32 x_ ∧ e.getD 5 .undef = .int .u64 (andI .u64 (IntKind.u64.wrap k) 31)) (by
    simp only [↓WE, WA, WL, aop, ofValue, ofCell, isConst, abin, acall1, abuiltin, aun, AV.cells, AV.one, Nat.reduceAdd, Int.reduceLT, Int.reduceLE, ↓WD, W0, evalOp, Nat.reduceEqDiff, Nat.reduceLT, ↓reduceIte, reduceCtorEq, hl, e0, e1, oc2]
    refine ⟨rfl, ?_, ?_, ?_⟩ <;> simp only [List.length_set, W0, Nat.reduceEqDiff, Nat.reduceLT, ↓reduceIte, hl, e0, e1]) ?_
  rintro envg3 _ ⟨rfl, hl, e0, e5⟩
  try simp only [↓WD, W0, evalOp, Nat.reduceEqDiff, Nat.reduceLT, ↓reduceIte, reduceCtorEq, hl, e0, e5]
  rw [AW_region]
  obtain ⟨y4, qy4, hF⟩ := obind hF
  have oy4 := shl_int (k := .u32) qy4
  obtain ⟨y5, qy5, hF⟩ := obind hF
  have oy5 := shr_int (k := .u32) qy5
  refine AE_joinR (fun e h' => h = h' ∧ e.length = 17 ∧ e.getD 4 .undef = .int .u32 (orI .u32 y4 y5)) (by
    simp only [↓WE, WA, WL, aop, ofValue, ofCell, isConst, abin, acall1, abuiltin, aun, AV.cells, AV.one, Nat.reduceAdd, Int.reduceLT, Int.reduceLE, ↓WD, W0, evalOp, Nat.reduceEqDiff, Nat.reduceLT, ↓reduceIte, reduceCtorEq, hl, e0, e5, oy4, oy5]
    refine ⟨rfl, ?_, ?_⟩ <;> simp only [List.length_set, W0, Nat.reduceEqDiff, Nat.reduceLT, ↓reduceIte, hl, e0, e5]) ?_
  rintro envg6 _ ⟨rfl, hl, e4⟩
  try simp only [↓WD, W0, evalOp, Nat.reduceEqDiff, Nat.reduceLT, ↓reduceIte, reduceCtorEq, hl, e4]
  refine KP_ret (vs := [.int .u32 (orI .u32 y4 y5)]) (by simp only [aresults, aresult, gs, List.length_set, Nat.reduceEqDiff, Nat.reduceLT, ↓reduceIte, hl, e4]) ?_
  obtain rfl := Option.some.inj hF
  exact rfl
theorem W_sha_right {K : PureK} (k134 : K 134 = some kf_134) (n123 : K 123 = none) (m : Nat) (hm : NF + 1 ≤ m) (h : AH) (a : Int) (n_ : Int) {r : Int} (hF : F_sha_right a n_ = some r) :
    AR (acall Try.prog (hooksOf K) (drawnOf Try.prog (tabOf K)) m 123 [.int .u32 a, .int .i64 n_] h) (fun v h' => v = .int .u32 r) := by
  obtain ⟨m, rfl⟩ : ∃ k, m = k + 1 := ⟨m - 1, by omega⟩
  refine AR_call (hooksOf_none n123) Try.func123 rfl _ _ fun env hl he => ?_
  have e0 := he 0
  have e1 := he 1
  simp only [List.getD_cons_zero, List.getD_cons_succ] at e0 e1
  simp only [Try.f123] at hl ⊢
  simp only [List.length_cons, List.length_nil, Nat.reduceAdd, Nat.reduceSub] at hl
  clear he
  have S0 : Sep h [] h [] := Sep.nil h
  rw [F_sha_right] at hF
  try simp only [↓WD, W0, evalOp, Nat.reduceEqDiff, Nat.reduceLT, ↓reduceIte, reduceCtorEq, hl, e0, e1]
  rw [AW_region]
  refine AE_joinR (fun e h' => h = h' ∧ e.length = 9 ∧ e.getD 0 .undef = .int .u32 a ∧ e.getD 1 .undef = .int .i64 n_) (by
    simp only [↓WE, WA, WL, aop, ofValue, ofCell, isConst, abin, acall1, abuiltin, aun, AV.cells, AV.one, Nat.reduceAdd, Int.reduceLT, Int.reduceLE, ↓WD, W0, evalOp, Nat.reduceEqDiff, Nat.reduceLT, ↓reduceIte, reduceCtorEq, hl, e0, e1]
    refine ⟨rfl, ?_, ?_, ?_⟩ <;> simp only [List.length_set, W0, Nat.reduceEqDiff, Nat.reduceLT, ↓reduceIte, hl, e0, e1]) ?_
  rintro envg1 _ ⟨rfl, hl, e0, e1⟩
  try simp only [↓WD, W0, evalOp, Nat.reduceEqDiff, Nat.reduceLT, ↓reduceIte, reduceCtorEq, hl, e0, e1]
  rw [AW_region]
  obtain ⟨y2, qy2, hF⟩ := obind hF
  have og3 := fun (D : Drawn) (n : Nat) (g : AH) => call_hook (P := Try.prog) (D := D) k134 n (args := [.int .u32 a, .int .i64 (IntKind.i64.wrap (0 - n_))]) (v := .int .u32 y2) ((kf_134_eq a (IntKind.i64.wrap (0 - n_))).trans (by rw [qy2]; rfl)) g
  refine AE_joinR (fun e h' => h = h' ∧ e.length = 9 ∧ e.getD 4 .undef = .int .u32 y2) (by
    simp only [↓WE, WA, WL, aop, ofValue, ofCell, isConst, abin, acall1, abuiltin, aun, AV.cells, AV.one, Nat.reduceAdd, Int.reduceLT, Int.reduceLE, ↓WD, W0, evalOp, Nat.reduceEqDiff, Nat.reduceLT, ↓reduceIte, reduceCtorEq, hl, e0, e1, og3]
    refine ⟨rfl, ?_, ?_⟩ <;> simp only [List.length_set, W0, Nat.reduceEqDiff, Nat.reduceLT, ↓reduceIte, hl, e0, e1]) ?_
  rintro envg4 _ ⟨rfl, hl, e4⟩
  try simp only [↓WD, W0, evalOp, Nat.reduceEqDiff, Nat.reduceLT, ↓reduceIte, reduceCtorEq, hl, e4]
  refine KP_ret (vs := [.int .u32 y2]) (by simp only [aresults, aresult, gs, List.length_set, Nat.reduceEqDiff, Nat.reduceLT, ↓reduceIte, hl, e4]) ?_
  obtain rfl := Option.some.inj hF
  exact rfl
theorem W_sha_words {K : PureK} (k123 : K 123 = some kf_123) (n100 : K 100 = none) (m : Nat) (hm : NF + 1 ≤ m) (h : AH) (s_ : List UInt8) {r : (List Int)} (hF : F_sha_words s_ = some r) :
    AR (acall Try.prog (hooksOf K) (drawnOf Try.prog (tabOf K)) m 100 [.str s_] h) (fun v h' => ∃ w0 : Nat, v = .ptr w0 0 ∧ Sep h [] h' [.blk w0 (r.map (AV.int .u32)) 147]) := by
  obtain ⟨m, rfl⟩ : ∃ k, m = k + 1 := ⟨m - 1, by omega⟩
  refine AR_call (hooksOf_none n100) Try.func100 rfl _ _ fun env hl he => ?_
  have e0 := he 0
  simp only [List.getD_cons_zero, List.getD_cons_succ] at e0
  simp only [Try.f100] at hl ⊢
  simp only [List.length_cons, List.length_nil, Nat.reduceAdd, Nat.reduceSub] at hl
  clear he
  have S0 : Sep h [] h [] := Sep.nil h
  rw [F_sha_words] at hF
  try simp only [↓WD, W0, evalOp, Nat.reduceEqDiff, Nat.reduceLT, ↓reduceIte, reduceCtorEq, hl, e0]
  rw [AW_region]
  refine AE_joinR (fun e h' => h = h' ∧ e.length = 84 ∧ e.getD 0 .undef = .str s_) (by
    simp only [↓WE, WA, WL, aop, ofValue, ofCell, isConst, abin, acall1, abuiltin, aun, AV.cells, AV.one, Nat.reduceAdd, Int.reduceLT, Int.reduceLE, ↓WD, W0, evalOp, Nat.reduceEqDiff, Nat.reduceLT, ↓reduceIte, reduceCtorEq, hl, e0]
    refine ⟨rfl, ?_, ?_⟩ <;> simp only [List.length_set, W0, Nat.reduceEqDiff, Nat.reduceLT, ↓reduceIte, hl, e0]) ?_
  rintro envg1 _ ⟨rfl, hl, e0⟩
  try simp only [↓WD, W0, evalOp, Nat.reduceEqDiff, Nat.reduceLT, ↓reduceIte, reduceCtorEq, hl, e0]
  rw [AW_region]
  obtain ⟨i2, h3, oa4, S5⟩ := S0.alloc 147 [.int .u32 0, .int .u32 0, .int .u32 0, .int .u32 0, .int .u32 0, .int .u32 0, .int .u32 0, .int .u32 0, .int .u32 0, .int .u32 0, .int .u32 0, .int .u32 0, .int .u32 0, .int .u32 0, .int .u32 0, .int .u32 0, .int .u32 0, .int .u32 0, .int .u32 0, .int .u32 0, .int .u32 0, .int .u32 0, .int .u32 0, .int .u32 0, .int .u32 0, .int .u32 0, .int .u32 0, .int .u32 0, .int .u32 0, .int .u32 0, .int .u32 0, .int .u32 0, .int .u32 0, .int .u32 0, .int .u32 0, .int .u32 0, .int .u32 0, .int .u32 0, .int .u32 0, .int .u32 0, .int .u32 0, .int .u32 0, .int .u32 0, .int .u32 0, .int .u32 0, .int .u32 0, .int .u32 0, .int .u32 0, .int .u32 0, .int .u32 0, .int .u32 0, .int .u32 0, .int .u32 0, .int .u32 0, .int .u32 0, .int .u32 0, .int .u32 0, .int .u32 0, .int .u32 0, .int .u32 0, .int .u32 0, .int .u32 0, .int .u32 0, .int .u32 0]
  have S7 : Sep h [] h3 [.blk i2 ([0, 0, 0, 0, 0, 0, 0, 0, 0, 0, 0, 0, 0, 0, 0, 0, 0, 0, 0, 0, 0, 0, 0, 0, 0, 0, 0, 0, 0, 0, 0, 0, 0, 0, 0, 0, 0, 0, 0, 0, 0, 0, 0, 0, 0, 0, 0, 0, 0, 0, 0, 0, 0, 0, 0, 0, 0, 0, 0, 0, 0, 0, 0, 0].map (AV.int .u32)) 147] := S5
  refine AE_joinR (fun e h' => h3 = h' ∧ e.length = 84 ∧ e.getD 0 .undef = .str s_ ∧ e.getD 3 .undef = .ptr i2 0) (by
    simp only [↓WE, WA, WL, aop, ofValue, ofCell, isConst, abin, acall1, abuiltin, aun, AV.cells, AV.one, Nat.reduceAdd, Int.reduceLT, Int.reduceLE, ↓WD, W0, evalOp, Nat.reduceEqDiff, Nat.reduceLT, ↓reduceIte, reduceCtorEq, hl, e0, zero_147, oa4]
    refine ⟨rfl, ?_, ?_, ?_⟩ <;> simp only [List.length_set, W0, Nat.reduceEqDiff, Nat.reduceLT, ↓reduceIte, hl, e0]) ?_
  rintro envg8 _ ⟨rfl, hl, e0, e3⟩
  try simp only [↓WD, W0, evalOp, Nat.reduceEqDiff, Nat.reduceLT, ↓reduceIte, reduceCtorEq, hl, e0, e3]
  rw [AW_region]
  refine AE_joinR (fun e h' => h3 = h' ∧ e.length = 84 ∧ e.getD 0 .undef = .str s_ ∧ e.getD 3 .undef = .ptr i2 0 ∧ e.getD 8 .undef = .int .i64 0) (by
    simp only [↓WE, WA, WL, aop, ofValue, ofCell, isConst, abin, acall1, abuiltin, aun, AV.cells, AV.one, Nat.reduceAdd, Int.reduceLT, Int.reduceLE, ↓WD, W0, evalOp, Nat.reduceEqDiff, Nat.reduceLT, ↓reduceIte, reduceCtorEq, hl, e0, e3]
    refine ⟨rfl, ?_, ?_, ?_, ?_⟩ <;> simp only [List.length_set, W0, Nat.reduceEqDiff, Nat.reduceLT, ↓reduceIte, hl, e0, e3]) ?_
  rintro envg9 _ ⟨rfl, hl, e0, e3, e8⟩
  try simp only [↓WD, W0, evalOp, Nat.reduceEqDiff, Nat.reduceLT, ↓reduceIte, reduceCtorEq, hl, e0, e3, e8]
  obtain ⟨r62, qr62, hF⟩ := obind hF
  refine AW_lift (L_sha_words_1 s_) (fun s e h' => e.length = 84 ∧ e.getD 0 .undef = .str s_ ∧ e.getD 3 .undef = .ptr i2 0 ∧ e.getD 8 .undef = .int .i64 s.2 ∧ Sep h [] h' [.blk i2 (s.1.map (AV.int .u32)) 147]) (fun r62 x e h' => x = .exit 0 ∧ e.length = 84 ∧ e.getD 3 .undef = .ptr i2 0 ∧ Sep h [] h' [.blk i2 (r62.map (AV.int .u32)) 147]) qr62 (by omega) ?_ ?_ ?_
  · rintro s envr62 h36 or62 ⟨hl, e0, e3, e8, S37⟩ wr62
    rw [L_sha_words_1] at wr62
    try simp only [↓WD, W0, evalOp, Nat.reduceEqDiff, Nat.reduceLT, ↓reduceIte, reduceCtorEq, hl, e0, e3, e8]
    rw [AW_region]
    refine AE_joinR (fun e h' => h36 = h' ∧ e.length = 84 ∧ e.getD 0 .undef = .str s_ ∧ e.getD 3 .undef = .ptr i2 0 ∧ e.getD 8 .undef = .int .i64 s.2 ∧ e.getD 9 .undef = .bool (decide (s.2 < 16))) (by
      simp only [↓WE, WA, WL, aop, ofValue, ofCell, isConst, abin, acall1, abuiltin, aun, AV.cells, AV.one, Nat.reduceAdd, Int.reduceLT, Int.reduceLE, ↓WD, W0, evalOp, Nat.reduceEqDiff, Nat.reduceLT, ↓reduceIte, reduceCtorEq, hl, e0, e3, e8]
      refine ⟨rfl, ?_, ?_, ?_, ?_, ?_⟩ <;> simp only [List.length_set, W0, Nat.reduceEqDiff, Nat.reduceLT, ↓reduceIte, hl, e0, e3, e8]) ?_
    rintro envg38 _ ⟨rfl, hl, e0, e3, e8, e9⟩
    try simp only [↓WD, W0, evalOp, Nat.reduceEqDiff, Nat.reduceLT, ↓reduceIte, reduceCtorEq, hl, e0, e3, e8, e9]
    refine CondK_dec (fun c40 => ?_) (fun c40 => ?_)
    · rw [if_pos c40] at wr62
      try simp only [↓WD, W0, evalOp, Nat.reduceEqDiff, Nat.reduceLT, ↓reduceIte, reduceCtorEq, hl, e0, e3, e8, e9]
      rw [AW_region]
      refine AE_joinR (fun e h' => h36 = h' ∧ e.length = 84 ∧ e.getD 0 .undef = .str s_ ∧ e.getD 3 .undef = .ptr i2 0 ∧ e.getD 4 .undef = .int .i64 s.2 ∧ e.getD 8 .undef = .int .i64 s.2) (by
        simp only [↓WE, WA, WL, aop, ofValue, ofCell, isConst, abin, acall1, abuiltin, aun, AV.cells, AV.one, Nat.reduceAdd, Int.reduceLT, Int.reduceLE, ↓WD, W0, evalOp, Nat.reduceEqDiff, Nat.reduceLT, ↓reduceIte, reduceCtorEq, hl, e0, e3, e8, e9]
        refine ⟨rfl, ?_, ?_, ?_, ?_, ?_⟩ <;> simp only [List.length_set, W0, Nat.reduceEqDiff, Nat.reduceLT, ↓reduceIte, hl, e0, e3, e8, e9]) ?_
      rintro envg41 _ ⟨rfl, hl, e0, e3, e4, e8⟩
      try simp only [↓WD, W0, evalOp, Nat.reduceEqDiff, Nat.reduceLT, ↓reduceIte, reduceCtorEq, hl, e0, e3, e4, e8]
      rw [AW_drawn, AE_drawnK (Ksub.cons k123 Ksub.nil) (by kernel_rfl)]
      obtain ⟨c42, qc42, wr62⟩ := obind wr62
      have oc42 := idx_str (P := Try.prog) (k := .i64) Try.underlying9 qc42
      have oc43 := fun g : AH => aconv_int (P := Try.prog) (h := g) (n := c42) (k' := .u8) Try.underlying5 Try.underlying85
      obtain ⟨y44, qy44, wr62⟩ := obind wr62
      have oy44 := shl_int (k := .u32) qy44
      obtain ⟨c45, qc45, wr62⟩ := obind wr62
      have oc45 := idx_str (P := Try.prog) (k := .i64) Try.underlying9 qc45
      have oc46 := fun g : AH => aconv_int (P := Try.prog) (h := g) (n := c45) (k' := .u8) Try.underlying5 Try.underlying85
      obtain ⟨y47, qy47, wr62⟩ := obind wr62
      have oy47 := shl_int (k := .u32) qy47
      obtain ⟨c48, qc48, wr62⟩ := obind wr62
      have oc48 := idx_str (P := Try.prog) (k := .i64) Try.underlying9 qc48
      have oc49 := fun g : AH => aconv_int (P := Try.prog) (h := g) (n := c48) (k' := .u8) Try.underlying5 Try.underlying85
      obtain ⟨y50, qy50, wr62⟩ := obind wr62
      have oy50 := shl_int (k := .u32) qy50
      obtain ⟨c51, qc51, wr62⟩ := obind wr62
      have oc51 := idx_str (P := Try.prog) (k := .i64) Try.underlying9 qc51
      have oc52 := fun g : AH => aconv_int (P := Try.prog) (h := g) (n := c51) (k' := .u8) Try.underlying5 Try.underlying85
      obtain ⟨_, q53, wr62⟩ := obind wr62
      have oi54 := ia_147 i2 0 .i64 (chkIdx_lo q53) (chkIdx_hi q53)
      obtain ⟨y58, qy58, wr62⟩ := obind wr62
      obtain ⟨h55, os56, S57⟩ := S37.storeA (P := Try.prog) 0 rfl sz_85 qy58
      have S59 : Sep h [] h55 [.blk i2 (y58.map (AV.int .u32)) 147] := S57
      refine AE_joinR (fun e h' => h55 = h' ∧ e.length = 84 ∧ e.getD 0 .undef = .str s_ ∧ e.getD 3 .undef = .ptr i2 0 ∧ e.getD 8 .undef = .int .i64 s.2) (by
        simp only [↓WE, WA, WL, aop, ofValue, ofCell, isConst, abin, acall1, abuiltin, aun, AV.cells, AV.one, Nat.reduceAdd, Int.reduceLT, Int.reduceLE, ↓WD, W0, evalOp, Nat.reduceEqDiff, Nat.reduceLT, ↓reduceIte, reduceCtorEq, hl, e0, e3, e4, e8, oc42, oc43, oy44, oc45, oc46, oy47, oc48, oc49, oy50, oc51, oc52, oi54, os56]
        refine ⟨rfl, ?_, ?_, ?_, ?_⟩ <;> simp only [List.length_set, W0, Nat.reduceEqDiff, Nat.reduceLT, ↓reduceIte, hl, e0, e3, e4, e8]) ?_
      rintro envg60 _ ⟨rfl, hl, e0, e3, e8⟩
      try simp only [↓WD, W0, evalOp, Nat.reduceEqDiff, Nat.reduceLT, ↓reduceIte, reduceCtorEq, hl, e0, e3, e8]
      rw [AW_region]
      refine AE_joinR (fun e h' => h55 = h' ∧ e.length = 84 ∧ e.getD 0 .undef = .str s_ ∧ e.getD 3 .undef = .ptr i2 0 ∧ e.getD 8 .undef = .int .i64 (IntKind.i64.wrap (s.2 + 1))) (by
        simp only [↓WE, WA, WL, aop, ofValue, ofCell, isConst, abin, acall1, abuiltin, aun, AV.cells, AV.one, Nat.reduceAdd, Int.reduceLT, Int.reduceLE, ↓WD, W0, evalOp, Nat.reduceEqDiff, Nat.reduceLT, ↓reduceIte, reduceCtorEq, hl, e0, e3, e8]
        refine ⟨rfl, ?_, ?_, ?_, ?_⟩ <;> simp only [List.length_set, W0, Nat.reduceEqDiff, Nat.reduceLT, ↓reduceIte, hl, e0, e3, e8]) ?_
      rintro envg61 _ ⟨rfl, hl, e0, e3, e8⟩
      try simp only [↓WD, W0, evalOp, Nat.reduceEqDiff, Nat.reduceLT, ↓reduceIte, reduceCtorEq, hl, e0, e3, e8]
      obtain rfl := Option.some.inj wr62
      rw [KP_nil, QL_normal]
      refine ⟨_, rfl, ?_, ?_, ?_, ?_, S59⟩ <;> simp only [List.length_set, W0, Nat.reduceEqDiff, Nat.reduceLT, ↓reduceIte, hl, e0, e3, e8]
    · rw [if_neg c40] at wr62
      try simp only [↓WD, W0, evalOp, Nat.reduceEqDiff, Nat.reduceLT, ↓reduceIte, reduceCtorEq, hl, e0, e3, e8, e9]
      obtain rfl := Option.some.inj wr62
      rw [KP_nil, QL_exit]
      refine ⟨_, rfl, rfl, ?_, ?_, S37⟩ <;> simp only [List.length_set, W0, Nat.reduceEqDiff, Nat.reduceLT, ↓reduceIte, hl, e0, e3, e8, e9]
  · refine ⟨?_, ?_, ?_, ?_, S7⟩ <;> simp only [List.length_set, W0, Nat.reduceEqDiff, Nat.reduceLT, ↓reduceIte, hl, e0, e3, e8]
  · rintro x envr62 h63 ⟨rfl, hl, e3, S64⟩
    try simp only [↓WD, W0, evalOp, Nat.reduceEqDiff, Nat.reduceLT, ↓reduceIte, reduceCtorEq, hl, e3]
    rw [AW_region]
    refine AE_joinR (fun e h' => h63 = h' ∧ e.length = 84 ∧ e.getD 3 .undef = .ptr i2 0 ∧ e.getD 5 .undef = .int .i64 16) (by
      simp only [↓WE, WA, WL, aop, ofValue, ofCell, isConst, abin, acall1, abuiltin, aun, AV.cells, AV.one, Nat.reduceAdd, Int.reduceLT, Int.reduceLE, ↓WD, W0, evalOp, Nat.reduceEqDiff, Nat.reduceLT, ↓reduceIte, reduceCtorEq, hl, e3]
      refine ⟨rfl, ?_, ?_, ?_⟩ <;> simp only [List.length_set, W0, Nat.reduceEqDiff, Nat.reduceLT, ↓reduceIte, hl, e3]) ?_
    rintro envg65 _ ⟨rfl, hl, e3, e5⟩
    try simp only [↓WD, W0, evalOp, Nat.reduceEqDiff, Nat.reduceLT, ↓reduceIte, reduceCtorEq, hl, e3, e5]
    obtain ⟨r148, qr148, hF⟩ := obind hF
    refine AW_lift (L_sha_words_2) (fun s e h' => e.length = 84 ∧ e.getD 3 .undef = .ptr i2 0 ∧ e.getD 5 .undef = .int .i64 s.2 ∧ Sep h [] h' [.blk i2 (s.1.map (AV.int .u32)) 147]) (fun r148 x e h' => x = .exit 2 ∧ e.length = 84 ∧ e.getD 3 .undef = .ptr i2 0 ∧ Sep h [] h' [.blk i2 (r148.map (AV.int .u32)) 147]) qr148 (by omega) ?_ ?_ ?_
    · rintro s envr148 h107 or148 ⟨hl, e3, e5, S108⟩ wr148
      rw [L_sha_words_2] at wr148
      try simp only [↓WD, W0, evalOp, Nat.reduceEqDiff, Nat.reduceLT, ↓reduceIte, reduceCtorEq, hl, e3, e5]
      rw [AW_region]
      refine AE_joinR (fun e h' => h107 = h' ∧ e.length = 84 ∧ e.getD 3 .undef = .ptr i2 0 ∧ e.getD 5 .undef = .int .i64 s.2 ∧ e.getD 44 .undef = .bool (decide (s.2 < 64))) (by
        simp only [↓WE, WA, WL, aop, ofValue, ofCell, isConst, abin, acall1, abuiltin, aun, AV.cells, AV.one, Nat.reduceAdd, Int.reduceLT, Int.reduceLE, ↓WD, W0, evalOp, Nat.reduceEqDiff, Nat.reduceLT, ↓reduceIte, reduceCtorEq, hl, e3, e5]
        refine ⟨rfl, ?_, ?_, ?_, ?_⟩ <;> simp only [List.length_set, W0, Nat.reduceEqDiff, Nat.reduceLT, ↓reduceIte, hl, e3, e5]) ?_
      rintro envg109 _ ⟨rfl, hl, e3, e5, e44⟩
      try simp only [↓WD, W0, evalOp, Nat.reduceEqDiff, Nat.reduceLT, ↓reduceIte, reduceCtorEq, hl, e3, e5, e44]
      refine CondK_dec (fun c111 => ?_) (fun c111 => ?_)
      · rw [if_pos c111] at wr148
        try simp only [↓WD, W0, evalOp, Nat.reduceEqDiff, Nat.reduceLT, ↓reduceIte, reduceCtorEq, hl, e3, e5, e44]
        rw [AW_drawn, AE_drawnK (Ksub.cons k123 Ksub.nil) (by kernel_rfl)]
        obtain ⟨_, q112, wr148⟩ := obind wr148
        have oi113 := ia_147 i2 0 .i64 (chkIdx_lo q112) (chkIdx_hi q112)
        obtain ⟨y115, qy115, wr148⟩ := obind wr148
        have ol114 := S108.load (P := Try.prog) 0 rfl (t := 85) (apart_idxA ag_85 qy115)
        obtain ⟨_, q116, wr148⟩ := obind wr148
        have oi117 := ia_147 i2 0 .i64 (chkIdx_lo q116) (chkIdx_hi q116)
        obtain ⟨y119, qy119, wr148⟩ := obind wr148
        have ol118 := S108.load (P := Try.prog) 0 rfl (t := 85) (apart_idxA ag_85 qy119)
        refine AE_joinR (fun e h' => h107 = h' ∧ e.length = 84 ∧ e.getD 3 .undef = .ptr i2 0 ∧ e.getD 5 .undef = .int .i64 s.2 ∧ e.getD 6 .undef = .int .u32 y115 ∧ e.getD 7 .undef = .int .u32 y119) (by
          simp only [↓WE, WA, WL, aop, ofValue, ofCell, isConst, abin, acall1, abuiltin, aun, AV.cells, AV.one, Nat.reduceAdd, Int.reduceLT, Int.reduceLE, ↓WD, W0, evalOp, Nat.reduceEqDiff, Nat.reduceLT, ↓reduceIte, reduceCtorEq, hl, e3, e5, e44, oi113, ol114, oi117, ol118]
          refine ⟨rfl, ?_, ?_, ?_, ?_, ?_⟩ <;> simp only [List.length_set, W0, Nat.reduceEqDiff, Nat.reduceLT, ↓reduceIte, hl, e3, e5, e44]) ?_
        rintro envg120 _ ⟨rfl, hl, e3, e5, e6, e7⟩
        try simp only [↓WD, W0, evalOp, Nat.reduceEqDiff, Nat.reduceLT, ↓reduceIte, reduceCtorEq, hl, e3, e5, e6, e7]
        rw [AW_drawn, AE_drawnK (Ksub.cons k123 Ksub.nil) (by kernel_rfl)]
        obtain ⟨_, q121, wr148⟩ := obind wr148
        have oi122 := ia_147 i2 0 .i64 (chkIdx_lo q121) (chkIdx_hi q121)
        obtain ⟨y124, qy124, wr148⟩ := obind wr148
        have ol123 := S108.load (P := Try.prog) 0 rfl (t := 85) (apart_idxA ag_85 qy124)
        obtain ⟨_, q125, wr148⟩ := obind wr148
        have oi126 := ia_147 i2 0 .i64 (chkIdx_lo q125) (chkIdx_hi q125)
        obtain ⟨y128, qy128, wr148⟩ := obind wr148
        have ol127 := S108.load (P := Try.prog) 0 rfl (t := 85) (apart_idxA ag_85 qy128)
        obtain ⟨y129, qy129, wr148⟩ := obind wr148
        have og130 := fun (cf : CallF) (g : AH) => tab_hook (cf := cf) k123 (args := [.int .u32 y115, .int .i64 7]) (v := .int .u32 y129) ((kf_123_eq y115 7).trans (by rw [qy129]; rfl)) g
        obtain ⟨y131, qy131, wr148⟩ := obind wr148
        have og132 := fun (cf : CallF) (g : AH) => tab_hook (cf := cf) k123 (args := [.int .u32 y115, .int .i64 18]) (v := .int .u32 y131) ((kf_123_eq y115 18).trans (by rw [qy131]; rfl)) g
        obtain ⟨y133, qy133, wr148⟩ := obind wr148
        have oy133 := shr_int (k := .u32) qy133
        obtain ⟨y134, qy134, wr148⟩ := obind wr148
        have og135 := fun (cf : CallF) (g : AH) => tab_hook (cf := cf) k123 (args := [.int .u32 y119, .int .i64 17]) (v := .int .u32 y134) ((kf_123_eq y119 17).trans (by rw [qy134]; rfl)) g
        obtain ⟨y136, qy136, wr148⟩ := obind wr148
        have og137 := fun (cf : CallF) (g : AH) => tab_hook (cf := cf) k123 (args := [.int .u32 y119, .int .i64 19]) (v := .int .u32 y136) ((kf_123_eq y119 19).trans (by rw [qy136]; rfl)) g
        obtain ⟨y138, qy138, wr148⟩ := obind wr148
        have oy138 := shr_int (k := .u32) qy138
        obtain ⟨_, q139, wr148⟩ := obind wr148
        have oi140 := ia_147 i2 0 .i64 (chkIdx_lo q139) (chkIdx_hi q139)
        obtain ⟨y144, qy144, wr148⟩ := obind wr148
        obtain ⟨h141, os142, S143⟩ := S108.storeA (P := Try.prog) 0 rfl sz_85 qy144
        have S145 : Sep h [] h141 [.blk i2 (y144.map (AV.int .u32)) 147] := S143
        refine AE_joinR (fun e h' => h141 = h' ∧ e.length = 84 ∧ e.getD 3 .undef = .ptr i2 0 ∧ e.getD 5 .undef = .int .i64 s.2) (by
          simp only [↓WE, WA, WL, aop, ofValue, ofCell, isConst, abin, acall1, abuiltin, aun, AV.cells, AV.one, Nat.reduceAdd, Int.reduceLT, Int.reduceLE, ↓WD, W0, evalOp, Nat.reduceEqDiff, Nat.reduceLT, ↓reduceIte, reduceCtorEq, hl, e3, e5, e6, e7, oi122, ol123, oi126, ol127, og130, og132, oy133, og135, og137, oy138, oi140, os142]
          refine ⟨rfl, ?_, ?_, ?_⟩ <;> simp only [List.length_set, W0, Nat.reduceEqDiff, Nat.reduceLT, ↓reduceIte, hl, e3, e5, e6, e7]) ?_
        rintro envg146 _ ⟨rfl, hl, e3, e5⟩
        try simp only [↓WD, W0, evalOp, Nat.reduceEqDiff, Nat.reduceLT, ↓reduceIte, reduceCtorEq, hl, e3, e5]
        rw [AW_region]
        refine AE_joinR (fun e h' => h141 = h' ∧ e.length = 84 ∧ e.getD 3 .undef = .ptr i2 0 ∧ e.getD 5 .undef = .int .i64 (IntKind.i64.wrap (s.2 + 1))) (by
          simp only [↓WE, WA, WL, aop, ofValue, ofCell, isConst, abin, acall1, abuiltin, aun, AV.cells, AV.one, Nat.reduceAdd, Int.reduceLT, Int.reduceLE, ↓WD, W0, evalOp, Nat.reduceEqDiff, Nat.reduceLT, ↓reduceIte, reduceCtorEq, hl, e3, e5]
          refine ⟨rfl, ?_, ?_, ?_⟩ <;> simp only [List.length_set, W0, Nat.reduceEqDiff, Nat.reduceLT, ↓reduceIte, hl, e3, e5]) ?_
        rintro envg147 _ ⟨rfl, hl, e3, e5⟩
        try simp only [↓WD, W0, evalOp, Nat.reduceEqDiff, Nat.reduceLT, ↓reduceIte, reduceCtorEq, hl, e3, e5]
        obtain rfl := Option.some.inj wr148
        rw [KP_nil, QL_normal]
        refine ⟨_, rfl, ?_, ?_, ?_, S145⟩ <;> simp only [List.length_set, W0, Nat.reduceEqDiff, Nat.reduceLT, ↓reduceIte, hl, e3, e5]
      · rw [if_neg c111] at wr148
        try simp only [↓WD, W0, evalOp, Nat.reduceEqDiff, Nat.reduceLT, ↓reduceIte, reduceCtorEq, hl, e3, e5, e44]
        obtain rfl := Option.some.inj wr148
        rw [KP_nil, QL_exit]
        refine ⟨_, rfl, rfl, ?_, ?_, S108⟩ <;> simp only [List.length_set, W0, Nat.reduceEqDiff, Nat.reduceLT, ↓reduceIte, hl, e3, e5, e44]
    · refine ⟨?_, ?_, ?_, S64⟩ <;> simp only [List.length_set, W0, Nat.reduceEqDiff, Nat.reduceLT, ↓reduceIte, hl, e3, e5]
    · rintro x envr148 h149 ⟨rfl, hl, e3, S150⟩
      try simp only [↓WD, W0, evalOp, Nat.reduceEqDiff, Nat.reduceLT, ↓reduceIte, reduceCtorEq, hl, e3]
      rw [AW_region]
      refine AE_joinR (fun e h' => h149 = h' ∧ e.length = 84 ∧ e.getD 2 .undef = .ptr i2 0) (by
        simp only [↓WE, WA, WL, aop, ofValue, ofCell, isConst, abin, acall1, abuiltin, aun, AV.cells, AV.one, Nat.reduceAdd, Int.reduceLT, Int.reduceLE, ↓WD, W0, evalOp, Nat.reduceEqDiff, Nat.reduceLT, ↓reduceIte, reduceCtorEq, hl, e3]
        refine ⟨rfl, ?_, ?_⟩ <;> simp only [List.length_set, W0, Nat.reduceEqDiff, Nat.reduceLT, ↓reduceIte, hl, e3]) ?_
      rintro envg151 _ ⟨rfl, hl, e2⟩
      try simp only [↓WD, W0, evalOp, Nat.reduceEqDiff, Nat.reduceLT, ↓reduceIte, reduceCtorEq, hl, e2]
      refine KP_ret (vs := [.ptr i2 0]) (by simp only [aresults, aresult, gs, List.length_set, Nat.reduceEqDiff, Nat.reduceLT, ↓reduceIte, hl, e2]) ?_
      obtain rfl := Option.some.inj hF
      exact ⟨i2, rfl, S150⟩
end Go.Proofs.YtobhmahlenjheaaM
