/- The abstract machine computes what the plain functions say: printed by lift.py. -/
import Derived.Test.YtobhmahlenjheaaSHW2
import Derived.KernelRfl
set_option linter.unusedSimpArgs false
set_option linter.unusedVariables false
namespace Go.Proofs.YtobhmahlenjheaaM
open Go Go.RowKit
set_option maxRecDepth 100000 in
set_option maxHeartbeats 4000000 in
theorem W_law04_ShaKeys {K : PureK} (k15 : K 15 = some kf_15) (k16 : K 16 = some kf_16) (k17 : K 17 = some kf_17) (k18 : K 18 = some kf_18) (k19 : K 19 = some kf_19) (n14 : K 14 = none) (n3 : K 3 = none) (m : Nat) (hm : NF + 2 ≤ m) (h : AH) (s_ : List UInt8) {r : Bool} (hF : F_law04_ShaKeys s_ = some r) :
    AR (acall Try.prog (hooksOf K) (drawnOf Try.prog (tabOf K)) m 3 [.str s_] h) (fun v h' => v = .bool r) := by
  obtain ⟨m, rfl⟩ : ∃ k, m = k + 1 := ⟨m - 1, by omega⟩
  refine AR_call (hooksOf_none n3) Try.func3 rfl _ _ fun env hl he => ?_
  have e0 := he 0
  simp only [List.getD_cons_zero, List.getD_cons_succ] at e0
  simp only [Try.f3] at hl ⊢
  simp only [List.length_cons, List.length_nil, Nat.reduceAdd, Nat.reduceSub] at hl
  clear he
  have S0 : Sep h [] h [] := Sep.nil h
  rw [F_law04_ShaKeys] at hF
  try simp only [↓WD, W0, evalOp, Nat.reduceEqDiff, Nat.reduceLT, ↓reduceIte, reduceCtorEq, hl, e0]
  rw [AW_region]
  refine AE_joinR (fun e h' => h = h' ∧ e.length = 41 ∧ e.getD 0 .undef = .str s_) (by
    simp only [↓WE, WA, WL, aop, ofValue, ofCell, isConst, abin, acall1, abuiltin, aun, AV.cells, AV.one, Nat.reduceAdd, Int.reduceLT, Int.reduceLE, ↓WD, W0, evalOp, Nat.reduceEqDiff, Nat.reduceLT, ↓reduceIte, reduceCtorEq, hl, e0]
    exact ⟨rfl, (by simp only [List.length_set, hl]), (by simp only [W0, Nat.reduceEqDiff, Nat.reduceLT, ↓reduceIte, hl, e0])⟩) ?_
  rintro envg1 _ ⟨rfl, hl, e0⟩
  try simp only [↓WD, W0, evalOp, Nat.reduceEqDiff, Nat.reduceLT, ↓reduceIte, reduceCtorEq, hl, e0]
  rw [AW_region]
  obtain ⟨y2, qy2, hF⟩ := obind hF
  obtain ⟨v6, h4, og3, rfl, S5⟩ := (W_law04_awake k16 k17 k19 n14 m (by omega) h  qy2).out
  have S7 : Sep h [] h4 [] := S0.call0 S5
  refine AE_joinR (fun e h' => h4 = h' ∧ e.length = 41 ∧ e.getD 0 .undef = .str s_ ∧ e.getD 7 .undef = .bool !y2) (by
    simp only [↓WE, WA, WL, aop, ofValue, ofCell, isConst, abin, acall1, abuiltin, aun, AV.cells, AV.one, Nat.reduceAdd, Int.reduceLT, Int.reduceLE, ↓WD, W0, evalOp, Nat.reduceEqDiff, Nat.reduceLT, ↓reduceIte, reduceCtorEq, hl, e0, og3]
    exact ⟨rfl, (by simp only [List.length_set, hl]), (by simp only [W0, Nat.reduceEqDiff, Nat.reduceLT, ↓reduceIte, hl, e0]), (by simp only [W0, Nat.reduceEqDiff, Nat.reduceLT, ↓reduceIte, hl, e0])⟩) ?_
  rintro envg8 _ ⟨rfl, hl, e0, e7⟩
  try simp only [↓WD, W0, evalOp, Nat.reduceEqDiff, Nat.reduceLT, ↓reduceIte, reduceCtorEq, hl, e0, e7]
  refine CondK_boo (fun c11 => ?_) (fun c11 => ?_)
  · rw [if_pos c11] at hF
    try simp only [↓WD, W0, evalOp, Nat.reduceEqDiff, Nat.reduceLT, ↓reduceIte, reduceCtorEq, hl, e0, e7]
    rw [AW_region]
    refine AE_joinR (fun e h' => h4 = h' ∧ e.length = 41 ∧ e.getD 2 .undef = .bool false) (by
      simp only [↓WE, WA, WL, aop, ofValue, ofCell, isConst, abin, acall1, abuiltin, aun, AV.cells, AV.one, Nat.reduceAdd, Int.reduceLT, Int.reduceLE, ↓WD, W0, evalOp, Nat.reduceEqDiff, Nat.reduceLT, ↓reduceIte, reduceCtorEq, hl, e0, e7]
      exact ⟨rfl, (by simp only [List.length_set, hl]), (by simp only [W0, Nat.reduceEqDiff, Nat.reduceLT, ↓reduceIte, hl, e0, e7])⟩) ?_
    rintro envg12 _ ⟨rfl, hl, e2⟩
    try simp only [↓WD, W0, evalOp, Nat.reduceEqDiff, Nat.reduceLT, ↓reduceIte, reduceCtorEq, hl, e2]
    refine KP_ret (vs := [.bool false]) (by simp only [aresults, aresult, gs, List.length_set, Nat.reduceEqDiff, Nat.reduceLT, ↓reduceIte, hl, e2]) ?_
    obtain rfl := Option.some.inj hF
    exact rfl
  · rw [if_neg (nf c11)] at hF
    try simp only [↓WD, W0, evalOp, Nat.reduceEqDiff, Nat.reduceLT, ↓reduceIte, reduceCtorEq, hl, e0, e7]
    rw [AW_region]
    have ol13 := fun g : AH => alen_str (P := Try.prog) (h := g) (l := s_) Try.underlying9
    refine AE_joinR (fun e h' => h4 = h' ∧ e.length = 41 ∧ e.getD 0 .undef = .str s_ ∧ e.getD 10 .undef = .bool (decide ((s_.length : Int) > 300))) (by
      simp only [↓WE, WA, WL, aop, ofValue, ofCell, isConst, abin, acall1, abuiltin, aun, AV.cells, AV.one, Nat.reduceAdd, Int.reduceLT, Int.reduceLE, ↓WD, W0, evalOp, Nat.reduceEqDiff, Nat.reduceLT, ↓reduceIte, reduceCtorEq, hl, e0, e7, ol13]
      exact ⟨rfl, (by simp only [List.length_set, hl]), (by simp only [W0, Nat.reduceEqDiff, Nat.reduceLT, ↓reduceIte, hl, e0, e7]), (by simp only [W0, Nat.reduceEqDiff, Nat.reduceLT, ↓reduceIte, hl, e0, e7])⟩) ?_
    rintro envg14 _ ⟨rfl, hl, e0, e10⟩
    try simp only [↓WD, W0, evalOp, Nat.reduceEqDiff, Nat.reduceLT, ↓reduceIte, reduceCtorEq, hl, e0, e10]
    refine CondK_dec (fun c17 => ?_) (fun c17 => ?_)
    · rw [if_pos c17] at hF
      try simp only [↓WD, W0, evalOp, Nat.reduceEqDiff, Nat.reduceLT, ↓reduceIte, reduceCtorEq, hl, e0, e10]
      rw [AW_region]
      refine AE_joinR (fun e h' => h4 = h' ∧ e.length = 41 ∧ e.getD 2 .undef = .bool true) (by
        simp only [↓WE, WA, WL, aop, ofValue, ofCell, isConst, abin, acall1, abuiltin, aun, AV.cells, AV.one, Nat.reduceAdd, Int.reduceLT, Int.reduceLE, ↓WD, W0, evalOp, Nat.reduceEqDiff, Nat.reduceLT, ↓reduceIte, reduceCtorEq, hl, e0, e10]
        exact ⟨rfl, (by simp only [List.length_set, hl]), (by simp only [W0, Nat.reduceEqDiff, Nat.reduceLT, ↓reduceIte, hl, e0, e10])⟩) ?_
      rintro envg18 _ ⟨rfl, hl, e2⟩
      try simp only [↓WD, W0, evalOp, Nat.reduceEqDiff, Nat.reduceLT, ↓reduceIte, reduceCtorEq, hl, e2]
      refine KP_ret (vs := [.bool true]) (by simp only [aresults, aresult, gs, List.length_set, Nat.reduceEqDiff, Nat.reduceLT, ↓reduceIte, hl, e2]) ?_
      obtain rfl := Option.some.inj hF
      exact rfl
    · rw [if_neg c17] at hF
      try simp only [↓WD, W0, evalOp, Nat.reduceEqDiff, Nat.reduceLT, ↓reduceIte, reduceCtorEq, hl, e0, e10]
      rw [AW_region]
      obtain ⟨y19, qy19, hF⟩ := obind hF
      have og20 := fun (D : Drawn) (n : Nat) (g : AH) => call_hook (P := Try.prog) (D := D) k15 n (args := [.str s_]) (v := .str y19) ((kf_15_eq s_).trans (by rw [qy19]; rfl)) g
      refine AE_joinR (fun e h' => h4 = h' ∧ e.length = 41 ∧ e.getD 0 .undef = .str s_ ∧ e.getD 3 .undef = .str y19) (by
        simp only [↓WE, WA, WL, aop, ofValue, ofCell, isConst, abin, acall1, abuiltin, aun, AV.cells, AV.one, Nat.reduceAdd, Int.reduceLT, Int.reduceLE, ↓WD, W0, evalOp, Nat.reduceEqDiff, Nat.reduceLT, ↓reduceIte, reduceCtorEq, hl, e0, e10, og20]
        exact ⟨rfl, (by simp only [List.length_set, hl]), (by simp only [W0, Nat.reduceEqDiff, Nat.reduceLT, ↓reduceIte, hl, e0, e10]), (by simp only [W0, Nat.reduceEqDiff, Nat.reduceLT, ↓reduceIte, hl, e0, e10])⟩) ?_
      rintro envg21 _ ⟨rfl, hl, e0, e3⟩
      try simp only [↓WD, W0, evalOp, Nat.reduceEqDiff, Nat.reduceLT, ↓reduceIte, reduceCtorEq, hl, e0, e3]
      rw [AW_region]
      refine AE_joinR (fun e h' => h4 = h' ∧ e.length = 41 ∧ e.getD 0 .undef = .str s_ ∧ e.getD 3 .undef = .str y19 ∧ e.getD 4 .undef = .int .u64 0) (by
        simp only [↓WE, WA, WL, aop, ofValue, ofCell, isConst, abin, acall1, abuiltin, aun, AV.cells, AV.one, Nat.reduceAdd, Int.reduceLT, Int.reduceLE, ↓WD, W0, evalOp, Nat.reduceEqDiff, Nat.reduceLT, ↓reduceIte, reduceCtorEq, hl, e0, e3]
        exact ⟨rfl, (by simp only [List.length_set, hl]), (by simp only [W0, Nat.reduceEqDiff, Nat.reduceLT, ↓reduceIte, hl, e0, e3]), (by simp only [W0, Nat.reduceEqDiff, Nat.reduceLT, ↓reduceIte, hl, e0, e3]), (by simp only [W0, Nat.reduceEqDiff, Nat.reduceLT, ↓reduceIte, hl, e0, e3])⟩) ?_
      rintro envg22 _ ⟨rfl, hl, e0, e3, e4⟩
      try simp only [↓WD, W0, evalOp, Nat.reduceEqDiff, Nat.reduceLT, ↓reduceIte, reduceCtorEq, hl, e0, e3, e4]
      rw [AW_region]
      refine AE_joinR (fun e h' => h4 = h' ∧ e.length = 41 ∧ e.getD 0 .undef = .str s_ ∧ e.getD 3 .undef = .str y19 ∧ e.getD 4 .undef = .int .u64 0 ∧ e.getD 13 .undef = .int .i64 0) (by
        simp only [↓WE, WA, WL, aop, ofValue, ofCell, isConst, abin, acall1, abuiltin, aun, AV.cells, AV.one, Nat.reduceAdd, Int.reduceLT, Int.reduceLE, ↓WD, W0, evalOp, Nat.reduceEqDiff, Nat.reduceLT, ↓reduceIte, reduceCtorEq, hl, e0, e3, e4]
        exact ⟨rfl, (by simp only [List.length_set, hl]), (by simp only [W0, Nat.reduceEqDiff, Nat.reduceLT, ↓reduceIte, hl, e0, e3, e4]), (by simp only [W0, Nat.reduceEqDiff, Nat.reduceLT, ↓reduceIte, hl, e0, e3, e4]), (by simp only [W0, Nat.reduceEqDiff, Nat.reduceLT, ↓reduceIte, hl, e0, e3, e4]), (by simp only [W0, Nat.reduceEqDiff, Nat.reduceLT, ↓reduceIte, hl, e0, e3, e4])⟩) ?_
      rintro envg23 _ ⟨rfl, hl, e0, e3, e4, e13⟩
      try simp only [↓WD, W0, evalOp, Nat.reduceEqDiff, Nat.reduceLT, ↓reduceIte, reduceCtorEq, hl, e0, e3, e4, e13]
      obtain ⟨r46, qr46, hF⟩ := obind hF
      refine AW_lift (L_law04_ShaKeys_1 y19) (fun s e h' => e.length = 41 ∧ e.getD 0 .undef = .str s_ ∧ e.getD 3 .undef = .str y19 ∧ e.getD 4 .undef = .int .u64 s.1 ∧ e.getD 13 .undef = .int .i64 s.2 ∧ Sep h [] h' []) (fun r46 x e h' => x = .exit 0 ∧ e.length = 41 ∧ e.getD 0 .undef = .str s_ ∧ e.getD 3 .undef = .str y19 ∧ e.getD 4 .undef = .int .u64 r46 ∧ Sep h [] h' []) qr46 (by omega) ?_ ?_ ?_
      · rintro s envr46 h35 or46 ⟨hl, e0, e3, e4, e13, S36⟩ wr46
        rw [L_law04_ShaKeys_1] at wr46
        try simp only [↓WD, W0, evalOp, Nat.reduceEqDiff, Nat.reduceLT, ↓reduceIte, reduceCtorEq, hl, e0, e3, e4, e13]
        rw [AW_region]
        refine AE_joinR (fun e h' => h35 = h' ∧ e.length = 41 ∧ e.getD 0 .undef = .str s_ ∧ e.getD 3 .undef = .str y19 ∧ e.getD 4 .undef = .int .u64 s.1 ∧ e.getD 13 .undef = .int .i64 s.2 ∧ e.getD 14 .undef = .bool (decide (s.2 < 8))) (by
          simp only [↓WE, WA, WL, aop, ofValue, ofCell, isConst, abin, acall1, abuiltin, aun, AV.cells, AV.one, Nat.reduceAdd, Int.reduceLT, Int.reduceLE, ↓WD, W0, evalOp, Nat.reduceEqDiff, Nat.reduceLT, ↓reduceIte, reduceCtorEq, hl, e0, e3, e4, e13]
          exact ⟨rfl, (by simp only [List.length_set, hl]), (by simp only [W0, Nat.reduceEqDiff, Nat.reduceLT, ↓reduceIte, hl, e0, e3, e4, e13]), (by simp only [W0, Nat.reduceEqDiff, Nat.reduceLT, ↓reduceIte, hl, e0, e3, e4, e13]), (by simp only [W0, Nat.reduceEqDiff, Nat.reduceLT, ↓reduceIte, hl, e0, e3, e4, e13]), (by simp only [W0, Nat.reduceEqDiff, Nat.reduceLT, ↓reduceIte, hl, e0, e3, e4, e13]), (by simp only [W0, Nat.reduceEqDiff, Nat.reduceLT, ↓reduceIte, hl, e0, e3, e4, e13])⟩) ?_
        rintro envg37 _ ⟨rfl, hl, e0, e3, e4, e13, e14⟩
        try simp only [↓WD, W0, evalOp, Nat.reduceEqDiff, Nat.reduceLT, ↓reduceIte, reduceCtorEq, hl, e0, e3, e4, e13, e14]
        refine CondK_dec (fun c39 => ?_) (fun c39 => ?_)
        · rw [if_pos c39] at wr46
          try simp only [↓WD, W0, evalOp, Nat.reduceEqDiff, Nat.reduceLT, ↓reduceIte, reduceCtorEq, hl, e0, e3, e4, e13, e14]
          rw [AW_region]
          refine AE_joinR (fun e h' => h35 = h' ∧ e.length = 41 ∧ e.getD 0 .undef = .str s_ ∧ e.getD 3 .undef = .str y19 ∧ e.getD 4 .undef = .int .u64 s.1 ∧ e.getD 5 .undef = .int .i64 s.2 ∧ e.getD 13 .undef = .int .i64 s.2) (by
            simp only [↓WE, WA, WL, aop, ofValue, ofCell, isConst, abin, acall1, abuiltin, aun, AV.cells, AV.one, Nat.reduceAdd, Int.reduceLT, Int.reduceLE, ↓WD, W0, evalOp, Nat.reduceEqDiff, Nat.reduceLT, ↓reduceIte, reduceCtorEq, hl, e0, e3, e4, e13, e14]
            exact ⟨rfl, (by simp only [List.length_set, hl]), (by simp only [W0, Nat.reduceEqDiff, Nat.reduceLT, ↓reduceIte, hl, e0, e3, e4, e13, e14]), (by simp only [W0, Nat.reduceEqDiff, Nat.reduceLT, ↓reduceIte, hl, e0, e3, e4, e13, e14]), (by simp only [W0, Nat.reduceEqDiff, Nat.reduceLT, ↓reduceIte, hl, e0, e3, e4, e13, e14]), (by simp only [W0, Nat.reduceEqDiff, Nat.reduceLT, ↓reduceIte, hl, e0, e3, e4, e13, e14]), (by simp only [W0, Nat.reduceEqDiff, Nat.reduceLT, ↓reduceIte, hl, e0, e3, e4, e13, e14])⟩) ?_
          rintro envg40 _ ⟨rfl, hl, e0, e3, e4, e5, e13⟩
          try simp only [↓WD, W0, evalOp, Nat.reduceEqDiff, Nat.reduceLT, ↓reduceIte, reduceCtorEq, hl, e0, e3, e4, e5, e13]
          rw [AW_region]
          obtain ⟨y41, qy41, wr46⟩ := obind wr46
          have oy41 := shl_int (k := .u64) qy41
          obtain ⟨c42, qc42, wr46⟩ := obind wr46
          have oc42 := idx_str (P := Try.prog) (k := .i64) Try.underlying9 qc42
          have oc43 := fun g : AH => aconv_int (P := Try.prog) (h := g) (n := c42) (k' := .u8) Try.underlying5 Try.underlying24
          refine AE_joinR (fun e h' => h35 = h' ∧ e.length = 41 ∧ e.getD 0 .undef = .str s_ ∧ e.getD 3 .undef = .str y19 ∧ e.getD 4 .undef = .int .u64 (orI .u64 y41 (IntKind.u64.wrap c42)) ∧ e.getD 13 .undef = .int .i64 s.2) (by
            simp only [↓WE, WA, WL, aop, ofValue, ofCell, isConst, abin, acall1, abuiltin, aun, AV.cells, AV.one, Nat.reduceAdd, Int.reduceLT, Int.reduceLE, ↓WD, W0, evalOp, Nat.reduceEqDiff, Nat.reduceLT, ↓reduceIte, reduceCtorEq, hl, e0, e3, e4, e5, e13, oy41, oc42, oc43]
            exact ⟨rfl, (by simp only [List.length_set, hl]), (by simp only [W0, Nat.reduceEqDiff, Nat.reduceLT, ↓reduceIte, hl, e0, e3, e4, e5, e13]), (by simp only [W0, Nat.reduceEqDiff, Nat.reduceLT, ↓reduceIte, hl, e0, e3, e4, e5, e13]), (by simp only [W0, Nat.reduceEqDiff, Nat.reduceLT, ↓reduceIte, hl, e0, e3, e4, e5, e13]), (by simp only [W0, Nat.reduceEqDiff, Nat.reduceLT, ↓reduceIte, hl, e0, e3, e4, e5, e13])⟩) ?_
          rintro envg44 _ ⟨rfl, hl, e0, e3, e4, e13⟩
          try simp only [↓WD, W0, evalOp, Nat.reduceEqDiff, Nat.reduceLT, ↓reduceIte, reduceCtorEq, hl, e0, e3, e4, e13]
          rw [AW_region]
          refine AE_joinR (fun e h' => h35 = h' ∧ e.length = 41 ∧ e.getD 0 .undef = .str s_ ∧ e.getD 3 .undef = .str y19 ∧ e.getD 4 .undef = .int .u64 (orI .u64 y41 (IntKind.u64.wrap c42)) ∧ e.getD 13 .undef = .int .i64 (IntKind.i64.wrap (s.2 + 1))) (by
            simp only [↓WE, WA, WL, aop, ofValue, ofCell, isConst, abin, acall1, abuiltin, aun, AV.cells, AV.one, Nat.reduceAdd, Int.reduceLT, Int.reduceLE, ↓WD, W0, evalOp, Nat.reduceEqDiff, Nat.reduceLT, ↓reduceIte, reduceCtorEq, hl, e0, e3, e4, e13]
            exact ⟨rfl, (by simp only [List.length_set, hl]), (by simp only [W0, Nat.reduceEqDiff, Nat.reduceLT, ↓reduceIte, hl, e0, e3, e4, e13]), (by simp only [W0, Nat.reduceEqDiff, Nat.reduceLT, ↓reduceIte, hl, e0, e3, e4, e13]), (by simp only [W0, Nat.reduceEqDiff, Nat.reduceLT, ↓reduceIte, hl, e0, e3, e4, e13]), (by simp only [W0, Nat.reduceEqDiff, Nat.reduceLT, ↓reduceIte, hl, e0, e3, e4, e13])⟩) ?_
          rintro envg45 _ ⟨rfl, hl, e0, e3, e4, e13⟩
          try simp only [↓WD, W0, evalOp, Nat.reduceEqDiff, Nat.reduceLT, ↓reduceIte, reduceCtorEq, hl, e0, e3, e4, e13]
          obtain rfl := Option.some.inj wr46
          rw [KP_nil, QL_normal]
          exact ⟨_, rfl, (by simp only [List.length_set, hl]), (by simp only [W0, Nat.reduceEqDiff, Nat.reduceLT, ↓reduceIte, hl, e0, e3, e4, e13]), (by simp only [W0, Nat.reduceEqDiff, Nat.reduceLT, ↓reduceIte, hl, e0, e3, e4, e13]), (by simp only [W0, Nat.reduceEqDiff, Nat.reduceLT, ↓reduceIte, hl, e0, e3, e4, e13]), (by simp only [W0, Nat.reduceEqDiff, Nat.reduceLT, ↓reduceIte, hl, e0, e3, e4, e13]), S36⟩
        · rw [if_neg c39] at wr46
          try simp only [↓WD, W0, evalOp, Nat.reduceEqDiff, Nat.reduceLT, ↓reduceIte, reduceCtorEq, hl, e0, e3, e4, e13, e14]
          obtain rfl := Option.some.inj wr46
          rw [KP_nil, QL_exit]
          exact ⟨_, rfl, rfl, (by simp only [List.length_set, hl]), (by simp only [W0, Nat.reduceEqDiff, Nat.reduceLT, ↓reduceIte, hl, e0, e3, e4, e13, e14]), (by simp only [W0, Nat.reduceEqDiff, Nat.reduceLT, ↓reduceIte, hl, e0, e3, e4, e13, e14]), (by simp only [W0, Nat.reduceEqDiff, Nat.reduceLT, ↓reduceIte, hl, e0, e3, e4, e13, e14]), S36⟩
      · exact ⟨(by simp only [List.length_set, hl]), (by simp only [W0, Nat.reduceEqDiff, Nat.reduceLT, ↓reduceIte, hl, e0, e3, e4, e13]), (by simp only [W0, Nat.reduceEqDiff, Nat.reduceLT, ↓reduceIte, hl, e0, e3, e4, e13]), (by simp only [W0, Nat.reduceEqDiff, Nat.reduceLT, ↓reduceIte, hl, e0, e3, e4, e13]), (by simp only [W0, Nat.reduceEqDiff, Nat.reduceLT, ↓reduceIte, hl, e0, e3, e4, e13]), S7⟩
      · rintro x envr46 h47 ⟨rfl, hl, e0, e3, e4, S48⟩
        try simp only [↓WD, W0, evalOp, Nat.reduceEqDiff, Nat.reduceLT, ↓reduceIte, reduceCtorEq, hl, e0, e3, e4]
        rw [AW_region]
        obtain ⟨j63, qj63, hF⟩ := obind hF
        refine AE_joinR (fun e h' => e.length = 41 ∧ e.getD 2 .undef = .bool j63 ∧ Sep h [] h' []) ?_ ?_
        · obtain ⟨y49, qy49, qj63⟩ := obind qj63
          have og50 := fun (D : Drawn) (n : Nat) (g : AH) => call_hook (P := Try.prog) (D := D) k16 n (args := [.str s_]) (v := .str y49) ((kf_16_eq s_).trans (by rw [qy49]; rfl)) g
          simp only [↓WE, WA, WL, aop, ofValue, ofCell, isConst, abin, acall1, abuiltin, aun, AV.cells, AV.one, Nat.reduceAdd, Int.reduceLT, Int.reduceLE, ↓WD, W0, evalOp, Nat.reduceEqDiff, Nat.reduceLT, ↓reduceIte, reduceCtorEq, hl, e0, e3, e4, og50]
          refine GuardW_boo (fun c51 => ?_) (fun c51 => ?_)
          · rw [if_pos c51] at qj63
            have d52 := c51
            obtain ⟨y54, qy54, qj63⟩ := obind qj63
            have og55 := fun (D : Drawn) (n : Nat) (g : AH) => call_hook (P := Try.prog) (D := D) k17 n (args := [.str s_]) (v := .str y54) ((kf_17_eq s_).trans (by rw [qy54]; rfl)) g
            obtain ⟨y56, qy56, qj63⟩ := obind qj63
            have og57 := fun (D : Drawn) (n : Nat) (g : AH) => call_hook (P := Try.prog) (D := D) k18 n (args := [.str y19]) (v := .str y56) ((kf_18_eq y19).trans (by rw [qy56]; rfl)) g
            simp only [↓WE, WA, WL, aop, ofValue, ofCell, isConst, abin, acall1, abuiltin, aun, AV.cells, AV.one, Nat.reduceAdd, Int.reduceLT, Int.reduceLE, ↓WD, W0, evalOp, Nat.reduceEqDiff, Nat.reduceLT, ↓reduceIte, reduceCtorEq, hl, e0, e3, e4, og50, og55, og57, d52]
            refine GuardW_boo (fun c58 => ?_) (fun c58 => ?_)
            · rw [if_pos c58] at qj63
              have d59 := c58
              obtain ⟨y61, qy61, qj63⟩ := obind qj63
              have og62 := fun (D : Drawn) (n : Nat) (g : AH) => call_hook (P := Try.prog) (D := D) k19 n (args := [.str s_]) (v := .int .u64 y61) ((kf_19_eq s_).trans (by rw [qy61]; rfl)) g
              simp only [↓WE, WA, WL, aop, ofValue, ofCell, isConst, abin, acall1, abuiltin, aun, AV.cells, AV.one, Nat.reduceAdd, Int.reduceLT, Int.reduceLE, ↓WD, W0, evalOp, Nat.reduceEqDiff, Nat.reduceLT, ↓reduceIte, reduceCtorEq, hl, e0, e3, e4, og50, og55, og57, og62, d52, d59]
              obtain rfl := Option.some.inj qj63
              exact ⟨(by simp only [List.length_set, hl]), (by simp only [W0, Nat.reduceEqDiff, Nat.reduceLT, ↓reduceIte, hl, e0, e3, e4]), S48⟩
            · rw [if_neg (nf c58)] at qj63
              have d60 := c58
              simp only [↓WE, WA, WL, aop, ofValue, ofCell, isConst, abin, acall1, abuiltin, aun, AV.cells, AV.one, Nat.reduceAdd, Int.reduceLT, Int.reduceLE, ↓WD, W0, evalOp, Nat.reduceEqDiff, Nat.reduceLT, ↓reduceIte, reduceCtorEq, hl, e0, e3, e4, og50, og55, og57, d52, d60]
              obtain rfl := Option.some.inj qj63
              exact ⟨(by simp only [List.length_set, hl]), (by simp only [W0, Nat.reduceEqDiff, Nat.reduceLT, ↓reduceIte, hl, e0, e3, e4]), S48⟩
          · rw [if_neg (nf c51)] at qj63
            have d53 := c51
            simp only [↓WE, WA, WL, aop, ofValue, ofCell, isConst, abin, acall1, abuiltin, aun, AV.cells, AV.one, Nat.reduceAdd, Int.reduceLT, Int.reduceLE, ↓WD, W0, evalOp, Nat.reduceEqDiff, Nat.reduceLT, ↓reduceIte, reduceCtorEq, hl, e0, e3, e4, og50, d53]
            obtain rfl := Option.some.inj qj63
            exact ⟨(by simp only [List.length_set, hl]), (by simp only [W0, Nat.reduceEqDiff, Nat.reduceLT, ↓reduceIte, hl, e0, e3, e4]), S48⟩
        · rintro envj63 h65 ⟨hl, e2, S64⟩
          try simp only [↓WD, W0, evalOp, Nat.reduceEqDiff, Nat.reduceLT, ↓reduceIte, reduceCtorEq, hl, e2]
          refine KP_ret (vs := [.bool j63]) (by simp only [aresults, aresult, gs, List.length_set, Nat.reduceEqDiff, Nat.reduceLT, ↓reduceIte, hl, e2]) ?_
          obtain rfl := Option.some.inj hF
          exact rfl
set_option maxRecDepth 100000 in
set_option maxHeartbeats 4000000 in
theorem W_law04_ShaPadded {K : PureK} (k15 : K 15 = some kf_15) (k16 : K 16 = some kf_16) (k17 : K 17 = some kf_17) (k19 : K 19 = some kf_19) (n14 : K 14 = none) (n4 : K 4 = none) (m : Nat) (hm : NF + 2 ≤ m) (h : AH) (c : Int) (n_ : Int) {r : Bool} (hF : F_law04_ShaPadded c n_ = some r) :
    AR (acall Try.prog (hooksOf K) (drawnOf Try.prog (tabOf K)) m 4 [.int .u8 c, .int .u8 n_] h) (fun v h' => v = .bool r) := by
  obtain ⟨m, rfl⟩ : ∃ k, m = k + 1 := ⟨m - 1, by omega⟩
  refine AR_call (hooksOf_none n4) Try.func4 rfl _ _ fun env hl he => ?_
  have e0 := he 0
  have e1 := he 1
  simp only [List.getD_cons_zero, List.getD_cons_succ] at e0 e1
  simp only [Try.f4] at hl ⊢
  simp only [List.length_cons, List.length_nil, Nat.reduceAdd, Nat.reduceSub] at hl
  clear he
  have S0 : Sep h [] h [] := Sep.nil h
  rw [F_law04_ShaPadded] at hF
  try simp only [↓WD, W0, evalOp, Nat.reduceEqDiff, Nat.reduceLT, ↓reduceIte, reduceCtorEq, hl, e0, e1]
  rw [AW_region]
  refine AE_joinR (fun e h' => h = h' ∧ e.length = 30 ∧ e.getD 0 .undef = .int .u8 c ∧ e.getD 1 .undef = .int .u8 n_) (by
    simp only [↓WE, WA, WL, aop, ofValue, ofCell, isConst, abin, acall1, abuiltin, aun, AV.cells, AV.one, Nat.reduceAdd, Int.reduceLT, Int.reduceLE, ↓WD, W0, evalOp, Nat.reduceEqDiff, Nat.reduceLT, ↓reduceIte, reduceCtorEq, hl, e0, e1]
    exact ⟨rfl, (by simp only [List.length_set, hl]), (by simp only [W0, Nat.reduceEqDiff, Nat.reduceLT, ↓reduceIte, hl, e0, e1]), (by simp only [W0, Nat.reduceEqDiff, Nat.reduceLT, ↓reduceIte, hl, e0, e1])⟩) ?_
  rintro envg1 _ ⟨rfl, hl, e0, e1⟩
  try simp only [↓WD, W0, evalOp, Nat.reduceEqDiff, Nat.reduceLT, ↓reduceIte, reduceCtorEq, hl, e0, e1]
  rw [AW_region]
  obtain ⟨y2, qy2, hF⟩ := obind hF
  obtain ⟨v6, h4, og3, rfl, S5⟩ := (W_law04_awake k16 k17 k19 n14 m (by omega) h  qy2).out
  have S7 : Sep h [] h4 [] := S0.call0 S5
  refine AE_joinR (fun e h' => h4 = h' ∧ e.length = 30 ∧ e.getD 0 .undef = .int .u8 c ∧ e.getD 1 .undef = .int .u8 n_ ∧ e.getD 8 .undef = .bool !y2) (by
    simp only [↓WE, WA, WL, aop, ofValue, ofCell, isConst, abin, acall1, abuiltin, aun, AV.cells, AV.one, Nat.reduceAdd, Int.reduceLT, Int.reduceLE, ↓WD, W0, evalOp, Nat.reduceEqDiff, Nat.reduceLT, ↓reduceIte, reduceCtorEq, hl, e0, e1, og3]
    exact ⟨rfl, (by simp only [List.length_set, hl]), (by simp only [W0, Nat.reduceEqDiff, Nat.reduceLT, ↓reduceIte, hl, e0, e1]), (by simp only [W0, Nat.reduceEqDiff, Nat.reduceLT, ↓reduceIte, hl, e0, e1]), (by simp only [W0, Nat.reduceEqDiff, Nat.reduceLT, ↓reduceIte, hl, e0, e1])⟩) ?_
  rintro envg8 _ ⟨rfl, hl, e0, e1, e8⟩
  try simp only [↓WD, W0, evalOp, Nat.reduceEqDiff, Nat.reduceLT, ↓reduceIte, reduceCtorEq, hl, e0, e1, e8]
  refine CondK_boo (fun c11 => ?_) (fun c11 => ?_)
  · rw [if_pos c11] at hF
    try simp only [↓WD, W0, evalOp, Nat.reduceEqDiff, Nat.reduceLT, ↓reduceIte, reduceCtorEq, hl, e0, e1, e8]
    rw [AW_region]
    refine AE_joinR (fun e h' => h4 = h' ∧ e.length = 30 ∧ e.getD 4 .undef = .bool false) (by
      simp only [↓WE, WA, WL, aop, ofValue, ofCell, isConst, abin, acall1, abuiltin, aun, AV.cells, AV.one, Nat.reduceAdd, Int.reduceLT, Int.reduceLE, ↓WD, W0, evalOp, Nat.reduceEqDiff, Nat.reduceLT, ↓reduceIte, reduceCtorEq, hl, e0, e1, e8]
      exact ⟨rfl, (by simp only [List.length_set, hl]), (by simp only [W0, Nat.reduceEqDiff, Nat.reduceLT, ↓reduceIte, hl, e0, e1, e8])⟩) ?_
    rintro envg12 _ ⟨rfl, hl, e4⟩
    try simp only [↓WD, W0, evalOp, Nat.reduceEqDiff, Nat.reduceLT, ↓reduceIte, reduceCtorEq, hl, e4]
    refine KP_ret (vs := [.bool false]) (by simp only [aresults, aresult, gs, List.length_set, Nat.reduceEqDiff, Nat.reduceLT, ↓reduceIte, hl, e4]) ?_
    obtain rfl := Option.some.inj hF
    exact rfl
  · rw [if_neg (nf c11)] at hF
    try simp only [↓WD, W0, evalOp, Nat.reduceEqDiff, Nat.reduceLT, ↓reduceIte, reduceCtorEq, hl, e0, e1, e8]
    rw [AW_region]
    have oc13 := fun g : AH => aconv_int (P := Try.prog) (h := g) (n := n_) (k' := .u8) Try.underlying5 Try.underlying3
    obtain ⟨y14, qy14, hF⟩ := obind hF
    have oy14 := rem_int (k := .i64) qy14
    obtain ⟨zs15, qzs15, hF⟩ := obind hF
    obtain ⟨u16, h17, om18, S19⟩ := Sep.make (P := Try.prog) sl_28 (f := (cellI .u8)) (by rw [zero_5]; rfl) S7 qzs15 .i64 .i64
    have S21 : Sep h [] h17 [.row u16 5 1 (zs15.map (cellI .u8))] := S19
    refine AE_joinR (fun e h' => h17 = h' ∧ e.length = 30 ∧ e.getD 0 .undef = .int .u8 c ∧ e.getD 5 .undef = u16) (by
      simp only [↓WE, WA, WL, aop, ofValue, ofCell, isConst, abin, acall1, abuiltin, aun, AV.cells, AV.one, Nat.reduceAdd, Int.reduceLT, Int.reduceLE, ↓WD, W0, evalOp, Nat.reduceEqDiff, Nat.reduceLT, ↓reduceIte, reduceCtorEq, hl, e0, e1, e8, oc13, oy14, om18]
      exact ⟨rfl, (by simp only [List.length_set, hl]), (by simp only [W0, Nat.reduceEqDiff, Nat.reduceLT, ↓reduceIte, hl, e0, e1, e8]), (by simp only [W0, Nat.reduceEqDiff, Nat.reduceLT, ↓reduceIte, hl, e0, e1, e8])⟩) ?_
    rintro envg22 _ ⟨rfl, hl, e0, e5⟩
    try simp only [↓WD, W0, evalOp, Nat.reduceEqDiff, Nat.reduceLT, ↓reduceIte, reduceCtorEq, hl, e0, e5]
    rw [AW_region]
    have ol23 := RO.len (P := Try.prog) sl_28 (S21.row_ro (i := 0) rfl)
    rw [List.length_map] at ol23
    refine AE_joinR (fun e h' => h17 = h' ∧ e.length = 30 ∧ e.getD 0 .undef = .int .u8 c ∧ e.getD 5 .undef = u16 ∧ e.getD 14 .undef = .int .i64 (zs15.length : Int) ∧ e.getD 15 .undef = .int .i64 0) (by
      simp only [↓WE, WA, WL, aop, ofValue, ofCell, isConst, abin, acall1, abuiltin, aun, AV.cells, AV.one, Nat.reduceAdd, Int.reduceLT, Int.reduceLE, ↓WD, W0, evalOp, Nat.reduceEqDiff, Nat.reduceLT, ↓reduceIte, reduceCtorEq, hl, e0, e5, ol23]
      exact ⟨rfl, (by simp only [List.length_set, hl]), (by simp only [W0, Nat.reduceEqDiff, Nat.reduceLT, ↓reduceIte, hl, e0, e5]), (by simp only [W0, Nat.reduceEqDiff, Nat.reduceLT, ↓reduceIte, hl, e0, e5]), (by simp only [W0, Nat.reduceEqDiff, Nat.reduceLT, ↓reduceIte, hl, e0, e5]), (by simp only [W0, Nat.reduceEqDiff, Nat.reduceLT, ↓reduceIte, hl, e0, e5])⟩) ?_
    rintro envg24 _ ⟨rfl, hl, e0, e5, e14, e15⟩
    try simp only [↓WD, W0, evalOp, Nat.reduceEqDiff, Nat.reduceLT, ↓reduceIte, reduceCtorEq, hl, e0, e5, e14, e15]
    obtain ⟨r61, qr61, hF⟩ := obind hF
    refine AW_lift (L_law04_ShaPadded_1 zs15 c) (fun s e h' => e.length = 30 ∧ e.getD 0 .undef = .int .u8 c ∧ e.getD 5 .undef = u16 ∧ e.getD 14 .undef = .int .i64 (zs15.length : Int) ∧ e.getD 15 .undef = .int .i64 s.2 ∧ Sep h [] h' [.row u16 5 1 (s.1.map (cellI .u8))]) (fun r61 x e h' => x = .exit 0 ∧ e.length = 30 ∧ e.getD 5 .undef = u16 ∧ Sep h [] h' [.row u16 5 1 (r61.map (cellI .u8))]) qr61 (by omega) ?_ ?_ ?_
    · rintro s envr61 h43 or61 ⟨hl, e0, e5, e14, e15, S44⟩ wr61
      rw [L_law04_ShaPadded_1] at wr61
      try simp only [↓WD, W0, evalOp, Nat.reduceEqDiff, Nat.reduceLT, ↓reduceIte, reduceCtorEq, hl, e0, e5, e14, e15]
      rw [AW_region]
      refine AE_joinR (fun e h' => h43 = h' ∧ e.length = 30 ∧ e.getD 0 .undef = .int .u8 c ∧ e.getD 5 .undef = u16 ∧ e.getD 14 .undef = .int .i64 (zs15.length : Int) ∧ e.getD 15 .undef = .int .i64 s.2 ∧ e.getD 16 .undef = .bool (decide (s.2 < (zs15.length : Int)))) (by
        simp only [↓WE, WA, WL, aop, ofValue, ofCell, isConst, abin, acall1, abuiltin, aun, AV.cells, AV.one, Nat.reduceAdd, Int.reduceLT, Int.reduceLE, ↓WD, W0, evalOp, Nat.reduceEqDiff, Nat.reduceLT, ↓reduceIte, reduceCtorEq, hl, e0, e5, e14, e15]
        exact ⟨rfl, (by simp only [List.length_set, hl]), (by simp only [W0, Nat.reduceEqDiff, Nat.reduceLT, ↓reduceIte, hl, e0, e5, e14, e15]), (by simp only [W0, Nat.reduceEqDiff, Nat.reduceLT, ↓reduceIte, hl, e0, e5, e14, e15]), (by simp only [W0, Nat.reduceEqDiff, Nat.reduceLT, ↓reduceIte, hl, e0, e5, e14, e15]), (by simp only [W0, Nat.reduceEqDiff, Nat.reduceLT, ↓reduceIte, hl, e0, e5, e14, e15]), (by simp only [W0, Nat.reduceEqDiff, Nat.reduceLT, ↓reduceIte, hl, e0, e5, e14, e15])⟩) ?_
      rintro envg45 _ ⟨rfl, hl, e0, e5, e14, e15, e16⟩
      try simp only [↓WD, W0, evalOp, Nat.reduceEqDiff, Nat.reduceLT, ↓reduceIte, reduceCtorEq, hl, e0, e5, e14, e15, e16]
      refine CondK_dec (fun c47 => ?_) (fun c47 => ?_)
      · rw [if_pos c47] at wr61
        try simp only [↓WD, W0, evalOp, Nat.reduceEqDiff, Nat.reduceLT, ↓reduceIte, reduceCtorEq, hl, e0, e5, e14, e15, e16]
        rw [AW_region]
        refine AE_joinR (fun e h' => h43 = h' ∧ e.length = 30 ∧ e.getD 0 .undef = .int .u8 c ∧ e.getD 5 .undef = u16 ∧ e.getD 6 .undef = .int .i64 s.2 ∧ e.getD 14 .undef = .int .i64 (zs15.length : Int) ∧ e.getD 15 .undef = .int .i64 s.2) (by
          simp only [↓WE, WA, WL, aop, ofValue, ofCell, isConst, abin, acall1, abuiltin, aun, AV.cells, AV.one, Nat.reduceAdd, Int.reduceLT, Int.reduceLE, ↓WD, W0, evalOp, Nat.reduceEqDiff, Nat.reduceLT, ↓reduceIte, reduceCtorEq, hl, e0, e5, e14, e15, e16]
          exact ⟨rfl, (by simp only [List.length_set, hl]), (by simp only [W0, Nat.reduceEqDiff, Nat.reduceLT, ↓reduceIte, hl, e0, e5, e14, e15, e16]), (by simp only [W0, Nat.reduceEqDiff, Nat.reduceLT, ↓reduceIte, hl, e0, e5, e14, e15, e16]), (by simp only [W0, Nat.reduceEqDiff, Nat.reduceLT, ↓reduceIte, hl, e0, e5, e14, e15, e16]), (by simp only [W0, Nat.reduceEqDiff, Nat.reduceLT, ↓reduceIte, hl, e0, e5, e14, e15, e16]), (by simp only [W0, Nat.reduceEqDiff, Nat.reduceLT, ↓reduceIte, hl, e0, e5, e14, e15, e16])⟩) ?_
        rintro envg48 _ ⟨rfl, hl, e0, e5, e6, e14, e15⟩
        try simp only [↓WD, W0, evalOp, Nat.reduceEqDiff, Nat.reduceLT, ↓reduceIte, reduceCtorEq, hl, e0, e5, e6, e14, e15]
        rw [AW_region]
        obtain ⟨x49, qx49, wr61⟩ := obind wr61
        obtain ⟨i50, off51, oi52, hp53⟩ := RO.addr (P := Try.prog) sl_28 (S44.row_ro (i := 0) rfl) qx49
        obtain ⟨y57, qy57, wr61⟩ := obind wr61
        obtain ⟨h54, os55, S56⟩ := S44.rstore (P := Try.prog) 0 rfl hp53 (x := x49) (z := c) (by first | exact qx49 | (simp only [idxL] at *; assumption)) (t := 5) (o := 0) (v := .int .u8 c) rfl sz_5 rfl (by simp) rfl qy57
        simp only [Nat.add_zero] at os55
        have S58 : Sep h [] h54 [.row u16 5 1 (y57.map (cellI .u8))] := S56
        refine AE_joinR (fun e h' => h54 = h' ∧ e.length = 30 ∧ e.getD 0 .undef = .int .u8 c ∧ e.getD 5 .undef = u16 ∧ e.getD 14 .undef = .int .i64 (zs15.length : Int) ∧ e.getD 15 .undef = .int .i64 s.2) (by
          simp only [↓WE, WA, WL, aop, ofValue, ofCell, isConst, abin, acall1, abuiltin, aun, AV.cells, AV.one, Nat.reduceAdd, Int.reduceLT, Int.reduceLE, ↓WD, W0, evalOp, Nat.reduceEqDiff, Nat.reduceLT, ↓reduceIte, reduceCtorEq, hl, e0, e5, e6, e14, e15, oi52, os55]
          exact ⟨rfl, (by simp only [List.length_set, hl]), (by simp only [W0, Nat.reduceEqDiff, Nat.reduceLT, ↓reduceIte, hl, e0, e5, e6, e14, e15]), (by simp only [W0, Nat.reduceEqDiff, Nat.reduceLT, ↓reduceIte, hl, e0, e5, e6, e14, e15]), (by simp only [W0, Nat.reduceEqDiff, Nat.reduceLT, ↓reduceIte, hl, e0, e5, e6, e14, e15]), (by simp only [W0, Nat.reduceEqDiff, Nat.reduceLT, ↓reduceIte, hl, e0, e5, e6, e14, e15])⟩) ?_
        rintro envg59 _ ⟨rfl, hl, e0, e5, e14, e15⟩
        try simp only [↓WD, W0, evalOp, Nat.reduceEqDiff, Nat.reduceLT, ↓reduceIte, reduceCtorEq, hl, e0, e5, e14, e15]
        rw [AW_region]
        refine AE_joinR (fun e h' => h54 = h' ∧ e.length = 30 ∧ e.getD 0 .undef = .int .u8 c ∧ e.getD 5 .undef = u16 ∧ e.getD 14 .undef = .int .i64 (zs15.length : Int) ∧ e.getD 15 .undef = .int .i64 (IntKind.i64.wrap (s.2 + 1))) (by
          simp only [↓WE, WA, WL, aop, ofValue, ofCell, isConst, abin, acall1, abuiltin, aun, AV.cells, AV.one, Nat.reduceAdd, Int.reduceLT, Int.reduceLE, ↓WD, W0, evalOp, Nat.reduceEqDiff, Nat.reduceLT, ↓reduceIte, reduceCtorEq, hl, e0, e5, e14, e15]
          exact ⟨rfl, (by simp only [List.length_set, hl]), (by simp only [W0, Nat.reduceEqDiff, Nat.reduceLT, ↓reduceIte, hl, e0, e5, e14, e15]), (by simp only [W0, Nat.reduceEqDiff, Nat.reduceLT, ↓reduceIte, hl, e0, e5, e14, e15]), (by simp only [W0, Nat.reduceEqDiff, Nat.reduceLT, ↓reduceIte, hl, e0, e5, e14, e15]), (by simp only [W0, Nat.reduceEqDiff, Nat.reduceLT, ↓reduceIte, hl, e0, e5, e14, e15])⟩) ?_
        rintro envg60 _ ⟨rfl, hl, e0, e5, e14, e15⟩
        try simp only [↓WD, W0, evalOp, Nat.reduceEqDiff, Nat.reduceLT, ↓reduceIte, reduceCtorEq, hl, e0, e5, e14, e15]
        obtain rfl := Option.some.inj wr61
        rw [KP_nil, QL_normal]
        exact ⟨_, rfl, (by simp only [List.length_set, hl]), (by simp only [W0, Nat.reduceEqDiff, Nat.reduceLT, ↓reduceIte, hl, e0, e5, e14, e15]), (by simp only [W0, Nat.reduceEqDiff, Nat.reduceLT, ↓reduceIte, hl, e0, e5, e14, e15]), (by simp only [W0, Nat.reduceEqDiff, Nat.reduceLT, ↓reduceIte, hl, e0, e5, e14, e15]), (by simp only [W0, Nat.reduceEqDiff, Nat.reduceLT, ↓reduceIte, hl, e0, e5, e14, e15]), S58⟩
      · rw [if_neg c47] at wr61
        try simp only [↓WD, W0, evalOp, Nat.reduceEqDiff, Nat.reduceLT, ↓reduceIte, reduceCtorEq, hl, e0, e5, e14, e15, e16]
        obtain rfl := Option.some.inj wr61
        rw [KP_nil, QL_exit]
        exact ⟨_, rfl, rfl, (by simp only [List.length_set, hl]), (by simp only [W0, Nat.reduceEqDiff, Nat.reduceLT, ↓reduceIte, hl, e0, e5, e14, e15, e16]), S44⟩
    · exact ⟨(by simp only [List.length_set, hl]), (by simp only [W0, Nat.reduceEqDiff, Nat.reduceLT, ↓reduceIte, hl, e0, e5, e14, e15]), (by simp only [W0, Nat.reduceEqDiff, Nat.reduceLT, ↓reduceIte, hl, e0, e5, e14, e15]), (by simp only [W0, Nat.reduceEqDiff, Nat.reduceLT, ↓reduceIte, hl, e0, e5, e14, e15]), (by simp only [W0, Nat.reduceEqDiff, Nat.reduceLT, ↓reduceIte, hl, e0, e5, e14, e15]), S21⟩
    · rintro x envr61 h62 ⟨rfl, hl, e5, S63⟩
      try simp only [↓WD, W0, evalOp, Nat.reduceEqDiff, Nat.reduceLT, ↓reduceIte, reduceCtorEq, hl, e5]
      rw [AW_drawn, AE_drawnK (Ksub.cons k15 (Ksub.cons k16 (Ksub.cons k17 (Ksub.cons k19 Ksub.nil)))) (by kernel_rfl)]
      have oc64 := RO.str (P := Try.prog) Try.underlying28 Try.underlying5 Try.underlying9 (S63.row_ro (i := 0) rfl)
      obtain ⟨y65, qy65, hF⟩ := obind hF
      have og66 := fun (cf : CallF) (g : AH) => tab_hook (cf := cf) k16 (args := [.str (r61.map byt)]) (v := .str y65) ((kf_16_eq (r61.map byt)).trans (by rw [qy65]; rfl)) g
      have oc67 := RO.str (P := Try.prog) Try.underlying28 Try.underlying5 Try.underlying9 (S63.row_ro (i := 0) rfl)
      obtain ⟨y68, qy68, hF⟩ := obind hF
      have og69 := fun (cf : CallF) (g : AH) => tab_hook (cf := cf) k15 (args := [.str (r61.map byt)]) (v := .str y68) ((kf_15_eq (r61.map byt)).trans (by rw [qy68]; rfl)) g
      refine AE_joinR (fun e h' => h62 = h' ∧ e.length = 30 ∧ e.getD 4 .undef = .bool (y65 == y68)) (by
        simp only [↓WE, WA, WL, aop, ofValue, ofCell, isConst, abin, acall1, abuiltin, aun, AV.cells, AV.one, Nat.reduceAdd, Int.reduceLT, Int.reduceLE, ↓WD, W0, evalOp, Nat.reduceEqDiff, Nat.reduceLT, ↓reduceIte, reduceCtorEq, hl, e5, oc64, og66, oc67, og69]
        exact ⟨rfl, (by simp only [List.length_set, hl]), (by simp only [W0, Nat.reduceEqDiff, Nat.reduceLT, ↓reduceIte, hl, e5])⟩) ?_
      rintro envg70 _ ⟨rfl, hl, e4⟩
      try simp only [↓WD, W0, evalOp, Nat.reduceEqDiff, Nat.reduceLT, ↓reduceIte, reduceCtorEq, hl, e4]
      refine KP_ret (vs := [.bool (y65 == y68)]) (by simp only [aresults, aresult, gs, List.length_set, Nat.reduceEqDiff, Nat.reduceLT, ↓reduceIte, hl, e4]) ?_
      obtain rfl := Option.some.inj hF
      exact rfl
end Go.Proofs.YtobhmahlenjheaaM
