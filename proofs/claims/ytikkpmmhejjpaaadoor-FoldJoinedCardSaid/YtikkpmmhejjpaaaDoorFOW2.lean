/- The abstract machine computes what the plain functions say: printed by lift.py. -/
import Derived.Test.YtikkpmmhejjpaaaDoorFOW1
set_option linter.unusedSimpArgs false
set_option linter.unusedVariables false
namespace Go.Proofs.YtikkpmmhejjpaaaDoorM
open Go Go.RowKit
set_option maxRecDepth 100000 in
set_option maxHeartbeats 4000000 in
theorem W_ref14_Fold {K : PureK} (k11 : K 11 = some kf_11) (k17 : K 17 = some kf_17) (k18 : K 18 = some kf_18) (n8 : K 8 = none) (m : Nat) (hm : NF + 1 ≤ m) (h : AH) (s_ : List UInt8) {r : (List UInt8)} (hF : F_ref14_Fold s_ = some r) :
    AR (acall Tryd.prog (hooksOf K) (drawnOf Tryd.prog (tabOf K)) m 8 [.str s_] h) (fun v h' => v = .str r) := by
  obtain ⟨m, rfl⟩ : ∃ k, m = k + 1 := ⟨m - 1, by omega⟩
  refine AR_call (hooksOf_none n8) Tryd.func8 rfl _ _ fun env hl he => ?_
  have e0 := he 0
  simp only [List.getD_cons_zero, List.getD_cons_succ] at e0
  simp only [Tryd.f8] at hl ⊢
  simp only [List.length_cons, List.length_nil, Nat.reduceAdd, Nat.reduceSub] at hl
  clear he
  have S0 : Sep h [] h [] := Sep.nil h
  rw [F_ref14_Fold] at hF
  try simp only [↓WD, W0, evalOp, Nat.reduceEqDiff, Nat.reduceLT, ↓reduceIte, reduceCtorEq, hl, e0]
  rw [AW_region]
  refine AE_joinR (fun e h' => h = h' ∧ e.length = 49 ∧ e.getD 0 .undef = .str s_) (by
    simp only [↓WE, WA, WL, aop, ofValue, ofCell, isConst, abin, acall1, abuiltin, aun, AV.cells, AV.one, Nat.reduceAdd, Int.reduceLT, Int.reduceLE, ↓WD, W0, evalOp, Nat.reduceEqDiff, Nat.reduceLT, ↓reduceIte, reduceCtorEq, hl, e0]
    exact ⟨rfl, (by simp only [List.length_set, hl]), (by simp only [W0, Nat.reduceEqDiff, Nat.reduceLT, ↓reduceIte, hl, e0])⟩) ?_
  rintro envg1 _ ⟨rfl, hl, e0⟩
  try simp only [↓WD, W0, evalOp, Nat.reduceEqDiff, Nat.reduceLT, ↓reduceIte, reduceCtorEq, hl, e0]
  rw [AW_region]
  refine AE_joinR (fun e h' => h = h' ∧ e.length = 49 ∧ e.getD 0 .undef = .str s_ ∧ e.getD 3 .undef = .str []) (by
    simp only [↓WE, WA, WL, aop, ofValue, ofCell, isConst, abin, acall1, abuiltin, aun, AV.cells, AV.one, Nat.reduceAdd, Int.reduceLT, Int.reduceLE, ↓WD, W0, evalOp, Nat.reduceEqDiff, Nat.reduceLT, ↓reduceIte, reduceCtorEq, hl, e0]
    exact ⟨rfl, (by simp only [List.length_set, hl]), (by simp only [W0, Nat.reduceEqDiff, Nat.reduceLT, ↓reduceIte, hl, e0]), (by simp only [W0, Nat.reduceEqDiff, Nat.reduceLT, ↓reduceIte, hl, e0])⟩) ?_
  rintro envg2 _ ⟨rfl, hl, e0, e3⟩
  try simp only [↓WD, W0, evalOp, Nat.reduceEqDiff, Nat.reduceLT, ↓reduceIte, reduceCtorEq, hl, e0, e3]
  rw [AW_region]
  refine AE_joinR (fun e h' => h = h' ∧ e.length = 49 ∧ e.getD 0 .undef = .str s_ ∧ e.getD 3 .undef = .str [] ∧ e.getD 4 .undef = .int .i64 0) (by
    simp only [↓WE, WA, WL, aop, ofValue, ofCell, isConst, abin, acall1, abuiltin, aun, AV.cells, AV.one, Nat.reduceAdd, Int.reduceLT, Int.reduceLE, ↓WD, W0, evalOp, Nat.reduceEqDiff, Nat.reduceLT, ↓reduceIte, reduceCtorEq, hl, e0, e3]
    exact ⟨rfl, (by simp only [List.length_set, hl]), (by simp only [W0, Nat.reduceEqDiff, Nat.reduceLT, ↓reduceIte, hl, e0, e3]), (by simp only [W0, Nat.reduceEqDiff, Nat.reduceLT, ↓reduceIte, hl, e0, e3]), (by simp only [W0, Nat.reduceEqDiff, Nat.reduceLT, ↓reduceIte, hl, e0, e3])⟩) ?_
  rintro envg3 _ ⟨rfl, hl, e0, e3, e4⟩
  try simp only [↓WD, W0, evalOp, Nat.reduceEqDiff, Nat.reduceLT, ↓reduceIte, reduceCtorEq, hl, e0, e3, e4]
  obtain ⟨r78, qr78, hF⟩ := obind hF
  refine AW_lift (L_ref14_Fold_1 s_) (fun s e h' => e.length = 49 ∧ e.getD 0 .undef = .str s_ ∧ e.getD 3 .undef = .str s.1 ∧ e.getD 4 .undef = .int .i64 s.2 ∧ Sep h [] h' []) (fun r78 x e h' => x = .exit 0 ∧ e.length = 49 ∧ e.getD 3 .undef = .str r78 ∧ Sep h [] h' []) qr78 (by omega) ?_ ?_ ?_
  · rintro s envr78 h41 or78 ⟨hl, e0, e3, e4, S42⟩ wr78
    rw [L_ref14_Fold_1] at wr78
    try simp only [↓WD, W0, evalOp, Nat.reduceEqDiff, Nat.reduceLT, ↓reduceIte, reduceCtorEq, hl, e0, e3, e4]
    rw [AW_region]
    have ol43 := fun g : AH => alen_str (P := Tryd.prog) (h := g) (l := s_) Tryd.underlying9
    refine AE_joinR (fun e h' => h41 = h' ∧ e.length = 49 ∧ e.getD 0 .undef = .str s_ ∧ e.getD 3 .undef = .str s.1 ∧ e.getD 4 .undef = .int .i64 s.2 ∧ e.getD 10 .undef = .bool (decide (s.2 < (s_.length : Int)))) (by
      simp only [↓WE, WA, WL, aop, ofValue, ofCell, isConst, abin, acall1, abuiltin, aun, AV.cells, AV.one, Nat.reduceAdd, Int.reduceLT, Int.reduceLE, ↓WD, W0, evalOp, Nat.reduceEqDiff, Nat.reduceLT, ↓reduceIte, reduceCtorEq, hl, e0, e3, e4, ol43]
      exact ⟨rfl, (by simp only [List.length_set, hl]), (by simp only [W0, Nat.reduceEqDiff, Nat.reduceLT, ↓reduceIte, hl, e0, e3, e4]), (by simp only [W0, Nat.reduceEqDiff, Nat.reduceLT, ↓reduceIte, hl, e0, e3, e4]), (by simp only [W0, Nat.reduceEqDiff, Nat.reduceLT, ↓reduceIte, hl, e0, e3, e4]), (by simp only [W0, Nat.reduceEqDiff, Nat.reduceLT, ↓reduceIte, hl, e0, e3, e4])⟩) ?_
    rintro envg44 _ ⟨rfl, hl, e0, e3, e4, e10⟩
    try simp only [↓WD, W0, evalOp, Nat.reduceEqDiff, Nat.reduceLT, ↓reduceIte, reduceCtorEq, hl, e0, e3, e4, e10]
    refine CondK_dec (fun c46 => ?_) (fun c46 => ?_)
    · rw [if_pos c46] at wr78
      try simp only [↓WD, W0, evalOp, Nat.reduceEqDiff, Nat.reduceLT, ↓reduceIte, reduceCtorEq, hl, e0, e3, e4, e10]
      rw [AW_region]
      obtain ⟨y47, qy47, wr78⟩ := obind wr78
      have og48 := fun (D : Drawn) (n : Nat) (g : AH) => call_hook (P := Tryd.prog) (D := D) k17 n (args := [.str s_, .int .i64 s.2]) (v := .tup [.int .i64 y47.1, .int .i64 y47.2]) ((kf_17_eq s_ s.2).trans (by rw [qy47]; rfl)) g
      refine AE_joinR (fun e h' => h41 = h' ∧ e.length = 49 ∧ e.getD 0 .undef = .str s_ ∧ e.getD 3 .undef = .str s.1 ∧ e.getD 4 .undef = .int .i64 s.2 ∧ e.getD 5 .undef = .int .i64 y47.1 ∧ e.getD 6 .undef = .int .i64 y47.2) (by
        simp only [↓WE, WA, WL, aop, ofValue, ofCell, isConst, abin, acall1, abuiltin, aun, AV.cells, AV.one, Nat.reduceAdd, Int.reduceLT, Int.reduceLE, ↓WD, W0, evalOp, Nat.reduceEqDiff, Nat.reduceLT, ↓reduceIte, reduceCtorEq, hl, e0, e3, e4, e10, og48]
        exact ⟨rfl, (by simp only [List.length_set, hl]), (by simp only [W0, Nat.reduceEqDiff, Nat.reduceLT, ↓reduceIte, hl, e0, e3, e4, e10]), (by simp only [W0, Nat.reduceEqDiff, Nat.reduceLT, ↓reduceIte, hl, e0, e3, e4, e10]), (by simp only [W0, Nat.reduceEqDiff, Nat.reduceLT, ↓reduceIte, hl, e0, e3, e4, e10]), (by simp only [W0, Nat.reduceEqDiff, Nat.reduceLT, ↓reduceIte, hl, e0, e3, e4, e10]), (by simp only [W0, Nat.reduceEqDiff, Nat.reduceLT, ↓reduceIte, hl, e0, e3, e4, e10])⟩) ?_
      rintro envg49 _ ⟨rfl, hl, e0, e3, e4, e5, e6⟩
      try simp only [↓WD, W0, evalOp, Nat.reduceEqDiff, Nat.reduceLT, ↓reduceIte, reduceCtorEq, hl, e0, e3, e4, e5, e6]
      rw [AW_region]
      refine AE_joinR (fun e h' => h41 = h' ∧ e.length = 49 ∧ e.getD 0 .undef = .str s_ ∧ e.getD 3 .undef = .str s.1 ∧ e.getD 4 .undef = .int .i64 s.2 ∧ e.getD 5 .undef = .int .i64 y47.1 ∧ e.getD 6 .undef = .int .i64 y47.2 ∧ e.getD 18 .undef = .bool (y47.2 == 0)) (by
        simp only [↓WE, WA, WL, aop, ofValue, ofCell, isConst, abin, acall1, abuiltin, aun, AV.cells, AV.one, Nat.reduceAdd, Int.reduceLT, Int.reduceLE, ↓WD, W0, evalOp, Nat.reduceEqDiff, Nat.reduceLT, ↓reduceIte, reduceCtorEq, hl, e0, e3, e4, e5, e6]
        exact ⟨rfl, (by simp only [List.length_set, hl]), (by simp only [W0, Nat.reduceEqDiff, Nat.reduceLT, ↓reduceIte, hl, e0, e3, e4, e5, e6]), (by simp only [W0, Nat.reduceEqDiff, Nat.reduceLT, ↓reduceIte, hl, e0, e3, e4, e5, e6]), (by simp only [W0, Nat.reduceEqDiff, Nat.reduceLT, ↓reduceIte, hl, e0, e3, e4, e5, e6]), (by simp only [W0, Nat.reduceEqDiff, Nat.reduceLT, ↓reduceIte, hl, e0, e3, e4, e5, e6]), (by simp only [W0, Nat.reduceEqDiff, Nat.reduceLT, ↓reduceIte, hl, e0, e3, e4, e5, e6]), (by simp only [W0, Nat.reduceEqDiff, Nat.reduceLT, ↓reduceIte, hl, e0, e3, e4, e5, e6])⟩) ?_
      rintro envg50 _ ⟨rfl, hl, e0, e3, e4, e5, e6, e18⟩
      try simp only [↓WD, W0, evalOp, Nat.reduceEqDiff, Nat.reduceLT, ↓reduceIte, reduceCtorEq, hl, e0, e3, e4, e5, e6, e18]
      refine CondK_boo (fun c56 => ?_) (fun c56 => ?_)
      · rw [if_pos c56] at wr78
        try simp only [↓WD, W0, evalOp, Nat.reduceEqDiff, Nat.reduceLT, ↓reduceIte, reduceCtorEq, hl, e0, e3, e4, e5, e6, e18]
        rw [AW_region]
        obtain ⟨s57, qs57, wr78⟩ := obind wr78
        have os57 := fun g : AH => sub_str (P := Tryd.prog) (h := g) (k := .i64) (k' := .i64) Tryd.underlying9 qs57
        obtain ⟨s58, qs58, wr78⟩ := obind wr78
        have os58 := cat_str qs58
        refine AE_joinR (fun e h' => h41 = h' ∧ e.length = 49 ∧ e.getD 0 .undef = .str s_ ∧ e.getD 3 .undef = .str s58 ∧ e.getD 4 .undef = .int .i64 s.2) (by
          simp only [↓WE, WA, WL, aop, ofValue, ofCell, isConst, abin, acall1, abuiltin, aun, AV.cells, AV.one, Nat.reduceAdd, Int.reduceLT, Int.reduceLE, ↓WD, W0, evalOp, Nat.reduceEqDiff, Nat.reduceLT, ↓reduceIte, reduceCtorEq, hl, e0, e3, e4, e5, e6, e18, os57, os58]
          exact ⟨rfl, (by simp only [List.length_set, hl]), (by simp only [W0, Nat.reduceEqDiff, Nat.reduceLT, ↓reduceIte, hl, e0, e3, e4, e5, e6, e18]), (by simp only [W0, Nat.reduceEqDiff, Nat.reduceLT, ↓reduceIte, hl, e0, e3, e4, e5, e6, e18]), (by simp only [W0, Nat.reduceEqDiff, Nat.reduceLT, ↓reduceIte, hl, e0, e3, e4, e5, e6, e18])⟩) ?_
        rintro envg59 _ ⟨rfl, hl, e0, e3, e4⟩
        try simp only [↓WD, W0, evalOp, Nat.reduceEqDiff, Nat.reduceLT, ↓reduceIte, reduceCtorEq, hl, e0, e3, e4]
        rw [AW_region]
        refine AE_joinR (fun e h' => h41 = h' ∧ e.length = 49 ∧ e.getD 0 .undef = .str s_ ∧ e.getD 3 .undef = .str s58 ∧ e.getD 4 .undef = .int .i64 (IntKind.i64.wrap (s.2 + 1))) (by
          simp only [↓WE, WA, WL, aop, ofValue, ofCell, isConst, abin, acall1, abuiltin, aun, AV.cells, AV.one, Nat.reduceAdd, Int.reduceLT, Int.reduceLE, ↓WD, W0, evalOp, Nat.reduceEqDiff, Nat.reduceLT, ↓reduceIte, reduceCtorEq, hl, e0, e3, e4]
          exact ⟨rfl, (by simp only [List.length_set, hl]), (by simp only [W0, Nat.reduceEqDiff, Nat.reduceLT, ↓reduceIte, hl, e0, e3, e4]), (by simp only [W0, Nat.reduceEqDiff, Nat.reduceLT, ↓reduceIte, hl, e0, e3, e4]), (by simp only [W0, Nat.reduceEqDiff, Nat.reduceLT, ↓reduceIte, hl, e0, e3, e4])⟩) ?_
        rintro envg60 _ ⟨rfl, hl, e0, e3, e4⟩
        try simp only [↓WD, W0, evalOp, Nat.reduceEqDiff, Nat.reduceLT, ↓reduceIte, reduceCtorEq, hl, e0, e3, e4]
        obtain rfl := Option.some.inj wr78
        rw [KP_nil, QL_normal]
        exact ⟨_, rfl, (by simp only [List.length_set, hl]), (by simp only [W0, Nat.reduceEqDiff, Nat.reduceLT, ↓reduceIte, hl, e0, e3, e4]), (by simp only [W0, Nat.reduceEqDiff, Nat.reduceLT, ↓reduceIte, hl, e0, e3, e4]), (by simp only [W0, Nat.reduceEqDiff, Nat.reduceLT, ↓reduceIte, hl, e0, e3, e4]), S42⟩
      · rw [if_neg (nf c56)] at wr78
        try simp only [↓WD, W0, evalOp, Nat.reduceEqDiff, Nat.reduceLT, ↓reduceIte, reduceCtorEq, hl, e0, e3, e4, e5, e6, e18]
        rw [AW_region]
        obtain ⟨y61, qy61, wr78⟩ := obind wr78
        have og62 := fun (D : Drawn) (n : Nat) (g : AH) => call_hook (P := Tryd.prog) (D := D) k11 n (args := [.int .i64 y47.1]) (v := .int .i64 y61) ((kf_11_eq y47.1).trans (by rw [qy61]; rfl)) g
        refine AE_joinR (fun e h' => h41 = h' ∧ e.length = 49 ∧ e.getD 0 .undef = .str s_ ∧ e.getD 3 .undef = .str s.1 ∧ e.getD 4 .undef = .int .i64 s.2 ∧ e.getD 5 .undef = .int .i64 y47.1 ∧ e.getD 6 .undef = .int .i64 y47.2 ∧ e.getD 31 .undef = .bool (y61 == y47.1)) (by
          simp only [↓WE, WA, WL, aop, ofValue, ofCell, isConst, abin, acall1, abuiltin, aun, AV.cells, AV.one, Nat.reduceAdd, Int.reduceLT, Int.reduceLE, ↓WD, W0, evalOp, Nat.reduceEqDiff, Nat.reduceLT, ↓reduceIte, reduceCtorEq, hl, e0, e3, e4, e5, e6, e18, og62]
          exact ⟨rfl, (by simp only [List.length_set, hl]), (by simp only [W0, Nat.reduceEqDiff, Nat.reduceLT, ↓reduceIte, hl, e0, e3, e4, e5, e6, e18]), (by simp only [W0, Nat.reduceEqDiff, Nat.reduceLT, ↓reduceIte, hl, e0, e3, e4, e5, e6, e18]), (by simp only [W0, Nat.reduceEqDiff, Nat.reduceLT, ↓reduceIte, hl, e0, e3, e4, e5, e6, e18]), (by simp only [W0, Nat.reduceEqDiff, Nat.reduceLT, ↓reduceIte, hl, e0, e3, e4, e5, e6, e18]), (by simp only [W0, Nat.reduceEqDiff, Nat.reduceLT, ↓reduceIte, hl, e0, e3, e4, e5, e6, e18]), (by simp only [W0, Nat.reduceEqDiff, Nat.reduceLT, ↓reduceIte, hl, e0, e3, e4, e5, e6, e18])⟩) ?_
        rintro envg63 _ ⟨rfl, hl, e0, e3, e4, e5, e6, e31⟩
        try simp only [↓WD, W0, evalOp, Nat.reduceEqDiff, Nat.reduceLT, ↓reduceIte, reduceCtorEq, hl, e0, e3, e4, e5, e6, e31]
        obtain ⟨j74, qj74, wr78⟩ := obind wr78
        refine CondK_join (fun e h' => e.length = 49 ∧ e.getD 0 .undef = .str s_ ∧ e.getD 3 .undef = .str j74 ∧ e.getD 4 .undef = .int .i64 s.2 ∧ e.getD 6 .undef = .int .i64 y47.2 ∧ Sep h [] h' []) ?_ ?_
        · refine CondK_boo (fun c64 => ?_) (fun c64 => ?_)
          · rw [if_pos c64] at qj74
            try simp only [↓WD, W0, evalOp, Nat.reduceEqDiff, Nat.reduceLT, ↓reduceIte, reduceCtorEq, hl, e0, e3, e4, e5, e6, e31]
            rw [AW_region]
            obtain ⟨s65, qs65, qj74⟩ := obind qj74
            have os65 := fun g : AH => sub_str (P := Tryd.prog) (h := g) (k := .i64) (k' := .i64) Tryd.underlying9 qs65
            obtain ⟨s66, qs66, qj74⟩ := obind qj74
            have os66 := cat_str qs66
            refine AE_joinR (fun e h' => h41 = h' ∧ e.length = 49 ∧ e.getD 0 .undef = .str s_ ∧ e.getD 3 .undef = .str s66 ∧ e.getD 4 .undef = .int .i64 s.2 ∧ e.getD 6 .undef = .int .i64 y47.2) (by
              simp only [↓WE, WA, WL, aop, ofValue, ofCell, isConst, abin, acall1, abuiltin, aun, AV.cells, AV.one, Nat.reduceAdd, Int.reduceLT, Int.reduceLE, ↓WD, W0, evalOp, Nat.reduceEqDiff, Nat.reduceLT, ↓reduceIte, reduceCtorEq, hl, e0, e3, e4, e5, e6, e31, os65, os66]
              exact ⟨rfl, (by simp only [List.length_set, hl]), (by simp only [W0, Nat.reduceEqDiff, Nat.reduceLT, ↓reduceIte, hl, e0, e3, e4, e5, e6, e31]), (by simp only [W0, Nat.reduceEqDiff, Nat.reduceLT, ↓reduceIte, hl, e0, e3, e4, e5, e6, e31]), (by simp only [W0, Nat.reduceEqDiff, Nat.reduceLT, ↓reduceIte, hl, e0, e3, e4, e5, e6, e31]), (by simp only [W0, Nat.reduceEqDiff, Nat.reduceLT, ↓reduceIte, hl, e0, e3, e4, e5, e6, e31])⟩) ?_
            rintro envg67 _ ⟨rfl, hl, e0, e3, e4, e6⟩
            try simp only [↓WD, W0, evalOp, Nat.reduceEqDiff, Nat.reduceLT, ↓reduceIte, reduceCtorEq, hl, e0, e3, e4, e6]
            rw [KP_nil, KJ_normal]
            obtain rfl := Option.some.inj qj74
            exact ⟨(by simp only [List.length_set, hl]), (by simp only [W0, Nat.reduceEqDiff, Nat.reduceLT, ↓reduceIte, hl, e0, e3, e4, e6]), (by simp only [W0, Nat.reduceEqDiff, Nat.reduceLT, ↓reduceIte, hl, e0, e3, e4, e6]), (by simp only [W0, Nat.reduceEqDiff, Nat.reduceLT, ↓reduceIte, hl, e0, e3, e4, e6]), (by simp only [W0, Nat.reduceEqDiff, Nat.reduceLT, ↓reduceIte, hl, e0, e3, e4, e6]), S42⟩
          · rw [if_neg (nf c64)] at qj74
            try simp only [↓WD, W0, evalOp, Nat.reduceEqDiff, Nat.reduceLT, ↓reduceIte, reduceCtorEq, hl, e0, e3, e4, e5, e6, e31]
            rw [AW_region]
            have og69 := fun (D : Drawn) (n : Nat) (g : AH) => call_hook (P := Tryd.prog) (D := D) k11 n (args := [.int .i64 y47.1]) (v := .int .i64 y61) ((kf_11_eq y47.1).trans (by rw [qy61]; rfl)) g
            obtain ⟨y70, qy70, qj74⟩ := obind qj74
            have og71 := fun (D : Drawn) (n : Nat) (g : AH) => call_hook (P := Tryd.prog) (D := D) k18 n (args := [.int .i64 y61]) (v := .str y70) ((kf_18_eq y61).trans (by rw [qy70]; rfl)) g
            obtain ⟨s72, qs72, qj74⟩ := obind qj74
            have os72 := cat_str qs72
            refine AE_joinR (fun e h' => h41 = h' ∧ e.length = 49 ∧ e.getD 0 .undef = .str s_ ∧ e.getD 3 .undef = .str s72 ∧ e.getD 4 .undef = .int .i64 s.2 ∧ e.getD 6 .undef = .int .i64 y47.2) (by
              simp only [↓WE, WA, WL, aop, ofValue, ofCell, isConst, abin, acall1, abuiltin, aun, AV.cells, AV.one, Nat.reduceAdd, Int.reduceLT, Int.reduceLE, ↓WD, W0, evalOp, Nat.reduceEqDiff, Nat.reduceLT, ↓reduceIte, reduceCtorEq, hl, e0, e3, e4, e5, e6, e31, og69, og71, os72]
              exact ⟨rfl, (by simp only [List.length_set, hl]), (by simp only [W0, Nat.reduceEqDiff, Nat.reduceLT, ↓reduceIte, hl, e0, e3, e4, e5, e6, e31]), (by simp only [W0, Nat.reduceEqDiff, Nat.reduceLT, ↓reduceIte, hl, e0, e3, e4, e5, e6, e31]), (by simp only [W0, Nat.reduceEqDiff, Nat.reduceLT, ↓reduceIte, hl, e0, e3, e4, e5, e6, e31]), (by simp only [W0, Nat.reduceEqDiff, Nat.reduceLT, ↓reduceIte, hl, e0, e3, e4, e5, e6, e31])⟩) ?_
            rintro envg73 _ ⟨rfl, hl, e0, e3, e4, e6⟩
            try simp only [↓WD, W0, evalOp, Nat.reduceEqDiff, Nat.reduceLT, ↓reduceIte, reduceCtorEq, hl, e0, e3, e4, e6]
            rw [KP_nil, KJ_normal]
            obtain rfl := Option.some.inj qj74
            exact ⟨(by simp only [List.length_set, hl]), (by simp only [W0, Nat.reduceEqDiff, Nat.reduceLT, ↓reduceIte, hl, e0, e3, e4, e6]), (by simp only [W0, Nat.reduceEqDiff, Nat.reduceLT, ↓reduceIte, hl, e0, e3, e4, e6]), (by simp only [W0, Nat.reduceEqDiff, Nat.reduceLT, ↓reduceIte, hl, e0, e3, e4, e6]), (by simp only [W0, Nat.reduceEqDiff, Nat.reduceLT, ↓reduceIte, hl, e0, e3, e4, e6]), S42⟩
        · rintro envj74 h76 ⟨hl, e0, e3, e4, e6, S75⟩
          try simp only [↓WD, W0, evalOp, Nat.reduceEqDiff, Nat.reduceLT, ↓reduceIte, reduceCtorEq, hl, e0, e3, e4, e6]
          rw [AW_region]
          refine AE_joinR (fun e h' => h76 = h' ∧ e.length = 49 ∧ e.getD 0 .undef = .str s_ ∧ e.getD 3 .undef = .str j74 ∧ e.getD 4 .undef = .int .i64 (IntKind.i64.wrap (s.2 + y47.2))) (by
            simp only [↓WE, WA, WL, aop, ofValue, ofCell, isConst, abin, acall1, abuiltin, aun, AV.cells, AV.one, Nat.reduceAdd, Int.reduceLT, Int.reduceLE, ↓WD, W0, evalOp, Nat.reduceEqDiff, Nat.reduceLT, ↓reduceIte, reduceCtorEq, hl, e0, e3, e4, e6]
            exact ⟨rfl, (by simp only [List.length_set, hl]), (by simp only [W0, Nat.reduceEqDiff, Nat.reduceLT, ↓reduceIte, hl, e0, e3, e4, e6]), (by simp only [W0, Nat.reduceEqDiff, Nat.reduceLT, ↓reduceIte, hl, e0, e3, e4, e6]), (by simp only [W0, Nat.reduceEqDiff, Nat.reduceLT, ↓reduceIte, hl, e0, e3, e4, e6])⟩) ?_
          rintro envg77 _ ⟨rfl, hl, e0, e3, e4⟩
          try simp only [↓WD, W0, evalOp, Nat.reduceEqDiff, Nat.reduceLT, ↓reduceIte, reduceCtorEq, hl, e0, e3, e4]
          obtain rfl := Option.some.inj wr78
          rw [KP_nil, QL_normal]
          exact ⟨_, rfl, (by simp only [List.length_set, hl]), (by simp only [W0, Nat.reduceEqDiff, Nat.reduceLT, ↓reduceIte, hl, e0, e3, e4]), (by simp only [W0, Nat.reduceEqDiff, Nat.reduceLT, ↓reduceIte, hl, e0, e3, e4]), (by simp only [W0, Nat.reduceEqDiff, Nat.reduceLT, ↓reduceIte, hl, e0, e3, e4]), S75⟩
    · rw [if_neg c46] at wr78
      try simp only [↓WD, W0, evalOp, Nat.reduceEqDiff, Nat.reduceLT, ↓reduceIte, reduceCtorEq, hl, e0, e3, e4, e10]
      obtain rfl := Option.some.inj wr78
      rw [KP_nil, QL_exit]
      exact ⟨_, rfl, rfl, (by simp only [List.length_set, hl]), (by simp only [W0, Nat.reduceEqDiff, Nat.reduceLT, ↓reduceIte, hl, e0, e3, e4, e10]), S42⟩
  · exact ⟨(by simp only [List.length_set, hl]), (by simp only [W0, Nat.reduceEqDiff, Nat.reduceLT, ↓reduceIte, hl, e0, e3, e4]), (by simp only [W0, Nat.reduceEqDiff, Nat.reduceLT, ↓reduceIte, hl, e0, e3, e4]), (by simp only [W0, Nat.reduceEqDiff, Nat.reduceLT, ↓reduceIte, hl, e0, e3, e4]), S0⟩
  · rintro x envr78 h79 ⟨rfl, hl, e3, S80⟩
    try simp only [↓WD, W0, evalOp, Nat.reduceEqDiff, Nat.reduceLT, ↓reduceIte, reduceCtorEq, hl, e3]
    rw [AW_region]
    refine AE_joinR (fun e h' => h79 = h' ∧ e.length = 49 ∧ e.getD 2 .undef = .str r78) (by
      simp only [↓WE, WA, WL, aop, ofValue, ofCell, isConst, abin, acall1, abuiltin, aun, AV.cells, AV.one, Nat.reduceAdd, Int.reduceLT, Int.reduceLE, ↓WD, W0, evalOp, Nat.reduceEqDiff, Nat.reduceLT, ↓reduceIte, reduceCtorEq, hl, e3]
      exact ⟨rfl, (by simp only [List.length_set, hl]), (by simp only [W0, Nat.reduceEqDiff, Nat.reduceLT, ↓reduceIte, hl, e3])⟩) ?_
    rintro envg81 _ ⟨rfl, hl, e2⟩
    try simp only [↓WD, W0, evalOp, Nat.reduceEqDiff, Nat.reduceLT, ↓reduceIte, reduceCtorEq, hl, e2]
    refine KP_ret (vs := [.str r78]) (by simp only [aresults, aresult, gs, List.length_set, Nat.reduceEqDiff, Nat.reduceLT, ↓reduceIte, hl, e2]) ?_
    obtain rfl := Option.some.inj hF
    exact rfl
set_option maxRecDepth 100000 in
set_option maxHeartbeats 4000000 in
theorem W_law14_FoldTexts {K : PureK} (k8 : K 8 = some kf_8) (k10 : K 10 = some kf_10) (k25 : K 25 = some hb77) (n6 : K 6 = none) (n7 : K 7 = none) (n9 : K 9 = none) (n12 : K 12 = none) (n13 : K 13 = none) (n14 : K 14 = none) (n15 : K 15 = none) (n16 : K 16 = none) (n21 : K 21 = none) (n22 : K 22 = none) (n23 : K 23 = none) (n26 : K 26 = none) (n3 : K 3 = none) (m : Nat) (hm : NF + 8 ≤ m) (h : AH) (hG : GL h) (s_ : List UInt8) {r : Bool} (hF : F_law14_FoldTexts s_ = some r) :
    AR (acall Tryd.prog (hooksOf K) (drawnOf Tryd.prog (tabOf K)) m 3 [.str s_] h) (fun v h' => v = .bool r ∧ Sep h [] h' []) := by
  obtain ⟨m, rfl⟩ : ∃ k, m = k + 1 := ⟨m - 1, by omega⟩
  refine AR_call (hooksOf_none n3) Tryd.func3 rfl _ _ fun env hl he => ?_
  have e0 := he 0
  simp only [List.getD_cons_zero, List.getD_cons_succ] at e0
  simp only [Tryd.f3] at hl ⊢
  simp only [List.length_cons, List.length_nil, Nat.reduceAdd, Nat.reduceSub] at hl
  clear he
  have S0 : Sep h [] h [] := Sep.nil h
  rw [F_law14_FoldTexts] at hF
  try simp only [↓WD, W0, evalOp, Nat.reduceEqDiff, Nat.reduceLT, ↓reduceIte, reduceCtorEq, hl, e0]
  rw [AW_region]
  refine AE_joinR (fun e h' => h = h' ∧ e.length = 26 ∧ e.getD 0 .undef = .str s_) (by
    simp only [↓WE, WA, WL, aop, ofValue, ofCell, isConst, abin, acall1, abuiltin, aun, AV.cells, AV.one, Nat.reduceAdd, Int.reduceLT, Int.reduceLE, ↓WD, W0, evalOp, Nat.reduceEqDiff, Nat.reduceLT, ↓reduceIte, reduceCtorEq, hl, e0]
    exact ⟨rfl, (by simp only [List.length_set, hl]), (by simp only [W0, Nat.reduceEqDiff, Nat.reduceLT, ↓reduceIte, hl, e0])⟩) ?_
  rintro envg1 _ ⟨rfl, hl, e0⟩
  try simp only [↓WD, W0, evalOp, Nat.reduceEqDiff, Nat.reduceLT, ↓reduceIte, reduceCtorEq, hl, e0]
  rw [AW_region]
  obtain ⟨y2, qy2, hF⟩ := obind hF
  obtain ⟨v6, h4, og3, rfl, S5⟩ := (W_law14_awake k10 k25 n7 n9 n12 n13 n14 n15 n16 n21 n22 n23 n26 n6 m (by omega) h (GL.keep0 S0 hG)  qy2).out
  have S7 : Sep h [] h4 [] := S0.call0 S5
  refine AE_joinR (fun e h' => h4 = h' ∧ e.length = 26 ∧ e.getD 0 .undef = .str s_ ∧ e.getD 5 .undef = .bool !y2) (by
    simp only [↓WE, WA, WL, aop, ofValue, ofCell, isConst, abin, acall1, abuiltin, aun, AV.cells, AV.one, Nat.reduceAdd, Int.reduceLT, Int.reduceLE, ↓WD, W0, evalOp, Nat.reduceEqDiff, Nat.reduceLT, ↓reduceIte, reduceCtorEq, hl, e0, og3]
    exact ⟨rfl, (by simp only [List.length_set, hl]), (by simp only [W0, Nat.reduceEqDiff, Nat.reduceLT, ↓reduceIte, hl, e0]), (by simp only [W0, Nat.reduceEqDiff, Nat.reduceLT, ↓reduceIte, hl, e0])⟩) ?_
  rintro envg8 _ ⟨rfl, hl, e0, e5⟩
  try simp only [↓WD, W0, evalOp, Nat.reduceEqDiff, Nat.reduceLT, ↓reduceIte, reduceCtorEq, hl, e0, e5]
  refine CondK_boo (fun c11 => ?_) (fun c11 => ?_)
  · rw [if_pos c11] at hF
    try simp only [↓WD, W0, evalOp, Nat.reduceEqDiff, Nat.reduceLT, ↓reduceIte, reduceCtorEq, hl, e0, e5]
    rw [AW_region]
    refine AE_joinR (fun e h' => h4 = h' ∧ e.length = 26 ∧ e.getD 2 .undef = .bool false) (by
      simp only [↓WE, WA, WL, aop, ofValue, ofCell, isConst, abin, acall1, abuiltin, aun, AV.cells, AV.one, Nat.reduceAdd, Int.reduceLT, Int.reduceLE, ↓WD, W0, evalOp, Nat.reduceEqDiff, Nat.reduceLT, ↓reduceIte, reduceCtorEq, hl, e0, e5]
      exact ⟨rfl, (by simp only [List.length_set, hl]), (by simp only [W0, Nat.reduceEqDiff, Nat.reduceLT, ↓reduceIte, hl, e0, e5])⟩) ?_
    rintro envg12 _ ⟨rfl, hl, e2⟩
    try simp only [↓WD, W0, evalOp, Nat.reduceEqDiff, Nat.reduceLT, ↓reduceIte, reduceCtorEq, hl, e2]
    refine KP_ret (vs := [.bool false]) (by simp only [aresults, aresult, gs, List.length_set, Nat.reduceEqDiff, Nat.reduceLT, ↓reduceIte, hl, e2]) ?_
    obtain rfl := Option.some.inj hF
    exact ⟨rfl, S7⟩
  · rw [if_neg (nf c11)] at hF
    try simp only [↓WD, W0, evalOp, Nat.reduceEqDiff, Nat.reduceLT, ↓reduceIte, reduceCtorEq, hl, e0, e5]
    rw [AW_region]
    have ol13 := fun g : AH => alen_str (P := Tryd.prog) (h := g) (l := s_) Tryd.underlying9
    refine AE_joinR (fun e h' => h4 = h' ∧ e.length = 26 ∧ e.getD 0 .undef = .str s_ ∧ e.getD 8 .undef = .bool (decide ((s_.length : Int) > 200))) (by
      simp only [↓WE, WA, WL, aop, ofValue, ofCell, isConst, abin, acall1, abuiltin, aun, AV.cells, AV.one, Nat.reduceAdd, Int.reduceLT, Int.reduceLE, ↓WD, W0, evalOp, Nat.reduceEqDiff, Nat.reduceLT, ↓reduceIte, reduceCtorEq, hl, e0, e5, ol13]
      exact ⟨rfl, (by simp only [List.length_set, hl]), (by simp only [W0, Nat.reduceEqDiff, Nat.reduceLT, ↓reduceIte, hl, e0, e5]), (by simp only [W0, Nat.reduceEqDiff, Nat.reduceLT, ↓reduceIte, hl, e0, e5])⟩) ?_
    rintro envg14 _ ⟨rfl, hl, e0, e8⟩
    try simp only [↓WD, W0, evalOp, Nat.reduceEqDiff, Nat.reduceLT, ↓reduceIte, reduceCtorEq, hl, e0, e8]
    refine CondK_dec (fun c17 => ?_) (fun c17 => ?_)
    · rw [if_pos c17] at hF
      try simp only [↓WD, W0, evalOp, Nat.reduceEqDiff, Nat.reduceLT, ↓reduceIte, reduceCtorEq, hl, e0, e8]
      rw [AW_region]
      refine AE_joinR (fun e h' => h4 = h' ∧ e.length = 26 ∧ e.getD 2 .undef = .bool true) (by
        simp only [↓WE, WA, WL, aop, ofValue, ofCell, isConst, abin, acall1, abuiltin, aun, AV.cells, AV.one, Nat.reduceAdd, Int.reduceLT, Int.reduceLE, ↓WD, W0, evalOp, Nat.reduceEqDiff, Nat.reduceLT, ↓reduceIte, reduceCtorEq, hl, e0, e8]
        exact ⟨rfl, (by simp only [List.length_set, hl]), (by simp only [W0, Nat.reduceEqDiff, Nat.reduceLT, ↓reduceIte, hl, e0, e8])⟩) ?_
      rintro envg18 _ ⟨rfl, hl, e2⟩
      try simp only [↓WD, W0, evalOp, Nat.reduceEqDiff, Nat.reduceLT, ↓reduceIte, reduceCtorEq, hl, e2]
      refine KP_ret (vs := [.bool true]) (by simp only [aresults, aresult, gs, List.length_set, Nat.reduceEqDiff, Nat.reduceLT, ↓reduceIte, hl, e2]) ?_
      obtain rfl := Option.some.inj hF
      exact ⟨rfl, S7⟩
    · rw [if_neg c17] at hF
      try simp only [↓WD, W0, evalOp, Nat.reduceEqDiff, Nat.reduceLT, ↓reduceIte, reduceCtorEq, hl, e0, e8]
      rw [AW_region]
      obtain ⟨y19, qy19, hF⟩ := obind hF
      obtain ⟨v23, h21, og20, rfl, S22⟩ := (W_fold_Fold k10 k25 n13 n14 n15 n16 n21 n22 n23 n26 n7 m (by omega) h4 (GL.keep0 S7 hG) s_ qy19).out
      have S24 : Sep h [] h21 [] := S7.call0 S22
      refine AE_joinR (fun e h' => h21 = h' ∧ e.length = 26 ∧ e.getD 0 .undef = .str s_ ∧ e.getD 3 .undef = .str y19) (by
        simp only [↓WE, WA, WL, aop, ofValue, ofCell, isConst, abin, acall1, abuiltin, aun, AV.cells, AV.one, Nat.reduceAdd, Int.reduceLT, Int.reduceLE, ↓WD, W0, evalOp, Nat.reduceEqDiff, Nat.reduceLT, ↓reduceIte, reduceCtorEq, hl, e0, e8, og20]
        exact ⟨rfl, (by simp only [List.length_set, hl]), (by simp only [W0, Nat.reduceEqDiff, Nat.reduceLT, ↓reduceIte, hl, e0, e8]), (by simp only [W0, Nat.reduceEqDiff, Nat.reduceLT, ↓reduceIte, hl, e0, e8])⟩) ?_
      rintro envg25 _ ⟨rfl, hl, e0, e3⟩
      try simp only [↓WD, W0, evalOp, Nat.reduceEqDiff, Nat.reduceLT, ↓reduceIte, reduceCtorEq, hl, e0, e3]
      rw [AW_region]
      obtain ⟨j46, qj46, hF⟩ := obind hF
      refine AE_joinR (fun e h' => e.length = 26 ∧ e.getD 2 .undef = .bool j46 ∧ Sep h [] h' []) ?_ ?_
      · obtain ⟨y26, qy26, qj46⟩ := obind qj46
        have og27 := fun (D : Drawn) (n : Nat) (g : AH) => call_hook (P := Tryd.prog) (D := D) k8 n (args := [.str s_]) (v := .str y26) ((kf_8_eq s_).trans (by rw [qy26]; rfl)) g
        simp only [↓WE, WA, WL, aop, ofValue, ofCell, isConst, abin, acall1, abuiltin, aun, AV.cells, AV.one, Nat.reduceAdd, Int.reduceLT, Int.reduceLE, ↓WD, W0, evalOp, Nat.reduceEqDiff, Nat.reduceLT, ↓reduceIte, reduceCtorEq, hl, e0, e3, og27]
        refine GuardW_boo (fun c28 => ?_) (fun c28 => ?_)
        · rw [if_pos c28] at qj46
          have d29 := c28
          obtain ⟨y31, qy31, qj46⟩ := obind qj46
          obtain ⟨v35, h33, og32, rfl, S34⟩ := (W_fold_Fold k10 k25 n13 n14 n15 n16 n21 n22 n23 n26 n7 m (by omega) h21 (GL.keep0 S24 hG) y19 qy31).out
          have S36 : Sep h [] h33 [] := S24.call0 S34
          simp only [↓WE, WA, WL, aop, ofValue, ofCell, isConst, abin, acall1, abuiltin, aun, AV.cells, AV.one, Nat.reduceAdd, Int.reduceLT, Int.reduceLE, ↓WD, W0, evalOp, Nat.reduceEqDiff, Nat.reduceLT, ↓reduceIte, reduceCtorEq, hl, e0, e3, og27, og32, d29]
          refine GuardW_boo (fun c37 => ?_) (fun c37 => ?_)
          · rw [if_pos c37] at qj46
            have d38 := c37
            obtain ⟨y40, qy40, qj46⟩ := obind qj46
            obtain ⟨v44, h42, og41, rfl, S43⟩ := (W_fold_Alike k10 k25 n7 n13 n14 n15 n16 n21 n22 n23 n26 n9 m (by omega) h33 (GL.keep0 S36 hG) s_ y19 qy40).out
            have S45 : Sep h [] h42 [] := S36.call0 S43
            simp only [↓WE, WA, WL, aop, ofValue, ofCell, isConst, abin, acall1, abuiltin, aun, AV.cells, AV.one, Nat.reduceAdd, Int.reduceLT, Int.reduceLE, ↓WD, W0, evalOp, Nat.reduceEqDiff, Nat.reduceLT, ↓reduceIte, reduceCtorEq, hl, e0, e3, og27, og32, og41, d29, d38]
            obtain rfl := Option.some.inj qj46
            exact ⟨(by simp only [List.length_set, hl]), (by simp only [W0, Nat.reduceEqDiff, Nat.reduceLT, ↓reduceIte, hl, e0, e3]), S45⟩
          · rw [if_neg (nf c37)] at qj46
            have d39 := c37
            simp only [↓WE, WA, WL, aop, ofValue, ofCell, isConst, abin, acall1, abuiltin, aun, AV.cells, AV.one, Nat.reduceAdd, Int.reduceLT, Int.reduceLE, ↓WD, W0, evalOp, Nat.reduceEqDiff, Nat.reduceLT, ↓reduceIte, reduceCtorEq, hl, e0, e3, og27, og32, d29, d39]
            obtain rfl := Option.some.inj qj46
            exact ⟨(by simp only [List.length_set, hl]), (by simp only [W0, Nat.reduceEqDiff, Nat.reduceLT, ↓reduceIte, hl, e0, e3]), S36⟩
        · rw [if_neg (nf c28)] at qj46
          have d30 := c28
          simp only [↓WE, WA, WL, aop, ofValue, ofCell, isConst, abin, acall1, abuiltin, aun, AV.cells, AV.one, Nat.reduceAdd, Int.reduceLT, Int.reduceLE, ↓WD, W0, evalOp, Nat.reduceEqDiff, Nat.reduceLT, ↓reduceIte, reduceCtorEq, hl, e0, e3, og27, d30]
          obtain rfl := Option.some.inj qj46
          exact ⟨(by simp only [List.length_set, hl]), (by simp only [W0, Nat.reduceEqDiff, Nat.reduceLT, ↓reduceIte, hl, e0, e3]), S24⟩
      · rintro envj46 h48 ⟨hl, e2, S47⟩
        try simp only [↓WD, W0, evalOp, Nat.reduceEqDiff, Nat.reduceLT, ↓reduceIte, reduceCtorEq, hl, e2]
        refine KP_ret (vs := [.bool j46]) (by simp only [aresults, aresult, gs, List.length_set, Nat.reduceEqDiff, Nat.reduceLT, ↓reduceIte, hl, e2]) ?_
        obtain rfl := Option.some.inj hF
        exact ⟨rfl, S47⟩
set_option maxRecDepth 100000 in
set_option maxHeartbeats 4000000 in
theorem W_law14_FoldSmall {K : PureK} (k10 : K 10 = some kf_10) (k11 : K 11 = some kf_11) (k25 : K 25 = some hb77) (n6 : K 6 = none) (n7 : K 7 = none) (n9 : K 9 = none) (n12 : K 12 = none) (n13 : K 13 = none) (n14 : K 14 = none) (n15 : K 15 = none) (n16 : K 16 = none) (n21 : K 21 = none) (n22 : K 22 = none) (n23 : K 23 = none) (n26 : K 26 = none) (n4 : K 4 = none) (m : Nat) (hm : NF + 8 ≤ m) (h : AH) (hG : GL h) (c : Int) {r : Bool} (hF : F_law14_FoldSmall c = some r) :
    AR (acall Tryd.prog (hooksOf K) (drawnOf Tryd.prog (tabOf K)) m 4 [.int .i64 c] h) (fun v h' => v = .bool r ∧ Sep h [] h' []) := by
  obtain ⟨m, rfl⟩ : ∃ k, m = k + 1 := ⟨m - 1, by omega⟩
  refine AR_call (hooksOf_none n4) Tryd.func4 rfl _ _ fun env hl he => ?_
  have e0 := he 0
  simp only [List.getD_cons_zero, List.getD_cons_succ] at e0
  simp only [Tryd.f4] at hl ⊢
  simp only [List.length_cons, List.length_nil, Nat.reduceAdd, Nat.reduceSub] at hl
  clear he
  have S0 : Sep h [] h [] := Sep.nil h
  rw [F_law14_FoldSmall] at hF
  try simp only [↓WD, W0, evalOp, Nat.reduceEqDiff, Nat.reduceLT, ↓reduceIte, reduceCtorEq, hl, e0]
  rw [AW_region]
  refine AE_joinR (fun e h' => h = h' ∧ e.length = 58 ∧ e.getD 0 .undef = .int .i64 c) (by
    simp only [↓WE, WA, WL, aop, ofValue, ofCell, isConst, abin, acall1, abuiltin, aun, AV.cells, AV.one, Nat.reduceAdd, Int.reduceLT, Int.reduceLE, ↓WD, W0, evalOp, Nat.reduceEqDiff, Nat.reduceLT, ↓reduceIte, reduceCtorEq, hl, e0]
    exact ⟨rfl, (by simp only [List.length_set, hl]), (by simp only [W0, Nat.reduceEqDiff, Nat.reduceLT, ↓reduceIte, hl, e0])⟩) ?_
  rintro envg1 _ ⟨rfl, hl, e0⟩
  try simp only [↓WD, W0, evalOp, Nat.reduceEqDiff, Nat.reduceLT, ↓reduceIte, reduceCtorEq, hl, e0]
  rw [AW_region]
  obtain ⟨y2, qy2, hF⟩ := obind hF
  obtain ⟨v6, h4, og3, rfl, S5⟩ := (W_law14_awake k10 k25 n7 n9 n12 n13 n14 n15 n16 n21 n22 n23 n26 n6 m (by omega) h (GL.keep0 S0 hG)  qy2).out
  have S7 : Sep h [] h4 [] := S0.call0 S5
  refine AE_joinR (fun e h' => h4 = h' ∧ e.length = 58 ∧ e.getD 0 .undef = .int .i64 c ∧ e.getD 9 .undef = .bool !y2) (by
    simp only [↓WE, WA, WL, aop, ofValue, ofCell, isConst, abin, acall1, abuiltin, aun, AV.cells, AV.one, Nat.reduceAdd, Int.reduceLT, Int.reduceLE, ↓WD, W0, evalOp, Nat.reduceEqDiff, Nat.reduceLT, ↓reduceIte, reduceCtorEq, hl, e0, og3]
    exact ⟨rfl, (by simp only [List.length_set, hl]), (by simp only [W0, Nat.reduceEqDiff, Nat.reduceLT, ↓reduceIte, hl, e0]), (by simp only [W0, Nat.reduceEqDiff, Nat.reduceLT, ↓reduceIte, hl, e0])⟩) ?_
  rintro envg8 _ ⟨rfl, hl, e0, e9⟩
  try simp only [↓WD, W0, evalOp, Nat.reduceEqDiff, Nat.reduceLT, ↓reduceIte, reduceCtorEq, hl, e0, e9]
  refine CondK_boo (fun c11 => ?_) (fun c11 => ?_)
  · rw [if_pos c11] at hF
    try simp only [↓WD, W0, evalOp, Nat.reduceEqDiff, Nat.reduceLT, ↓reduceIte, reduceCtorEq, hl, e0, e9]
    rw [AW_region]
    refine AE_joinR (fun e h' => h4 = h' ∧ e.length = 58 ∧ e.getD 2 .undef = .bool false) (by
      simp only [↓WE, WA, WL, aop, ofValue, ofCell, isConst, abin, acall1, abuiltin, aun, AV.cells, AV.one, Nat.reduceAdd, Int.reduceLT, Int.reduceLE, ↓WD, W0, evalOp, Nat.reduceEqDiff, Nat.reduceLT, ↓reduceIte, reduceCtorEq, hl, e0, e9]
      exact ⟨rfl, (by simp only [List.length_set, hl]), (by simp only [W0, Nat.reduceEqDiff, Nat.reduceLT, ↓reduceIte, hl, e0, e9])⟩) ?_
    rintro envg12 _ ⟨rfl, hl, e2⟩
    try simp only [↓WD, W0, evalOp, Nat.reduceEqDiff, Nat.reduceLT, ↓reduceIte, reduceCtorEq, hl, e2]
    refine KP_ret (vs := [.bool false]) (by simp only [aresults, aresult, gs, List.length_set, Nat.reduceEqDiff, Nat.reduceLT, ↓reduceIte, hl, e2]) ?_
    obtain rfl := Option.some.inj hF
    exact ⟨rfl, S7⟩
  · rw [if_neg (nf c11)] at hF
    try simp only [↓WD, W0, evalOp, Nat.reduceEqDiff, Nat.reduceLT, ↓reduceIte, reduceCtorEq, hl, e0, e9]
    rw [AW_region]
    obtain ⟨y13, qy13, hF⟩ := obind hF
    have og14 := fun (D : Drawn) (n : Nat) (g : AH) => call_hook (P := Tryd.prog) (D := D) k10 n (args := [.int .i64 c]) (v := .int .i64 y13) ((kf_10_eq c).trans (by rw [qy13]; rfl)) g
    refine AE_joinR (fun e h' => h4 = h' ∧ e.length = 58 ∧ e.getD 0 .undef = .int .i64 c ∧ e.getD 3 .undef = .int .i64 y13) (by
      simp only [↓WE, WA, WL, aop, ofValue, ofCell, isConst, abin, acall1, abuiltin, aun, AV.cells, AV.one, Nat.reduceAdd, Int.reduceLT, Int.reduceLE, ↓WD, W0, evalOp, Nat.reduceEqDiff, Nat.reduceLT, ↓reduceIte, reduceCtorEq, hl, e0, e9, og14]
      exact ⟨rfl, (by simp only [List.length_set, hl]), (by simp only [W0, Nat.reduceEqDiff, Nat.reduceLT, ↓reduceIte, hl, e0, e9]), (by simp only [W0, Nat.reduceEqDiff, Nat.reduceLT, ↓reduceIte, hl, e0, e9])⟩) ?_
    rintro envg15 _ ⟨rfl, hl, e0, e3⟩
    try simp only [↓WD, W0, evalOp, Nat.reduceEqDiff, Nat.reduceLT, ↓reduceIte, reduceCtorEq, hl, e0, e3]
    rw [AW_region]
    obtain ⟨y16, qy16, hF⟩ := obind hF
    have og17 := fun (D : Drawn) (n : Nat) (g : AH) => call_hook (P := Tryd.prog) (D := D) k11 n (args := [.int .i64 c]) (v := .int .i64 y16) ((kf_11_eq c).trans (by rw [qy16]; rfl)) g
    refine AE_joinR (fun e h' => h4 = h' ∧ e.length = 58 ∧ e.getD 0 .undef = .int .i64 c ∧ e.getD 3 .undef = .int .i64 y13 ∧ e.getD 15 .undef = .bool (y13 != y16)) (by
      simp only [↓WE, WA, WL, aop, ofValue, ofCell, isConst, abin, acall1, abuiltin, aun, AV.cells, AV.one, Nat.reduceAdd, Int.reduceLT, Int.reduceLE, ↓WD, W0, evalOp, Nat.reduceEqDiff, Nat.reduceLT, ↓reduceIte, reduceCtorEq, hl, e0, e3, og17]
      exact ⟨rfl, (by simp only [List.length_set, hl]), (by simp only [W0, Nat.reduceEqDiff, Nat.reduceLT, ↓reduceIte, hl, e0, e3]), (by simp only [W0, Nat.reduceEqDiff, Nat.reduceLT, ↓reduceIte, hl, e0, e3]), (by simp only [W0, Nat.reduceEqDiff, Nat.reduceLT, ↓reduceIte, hl, e0, e3])⟩) ?_
    rintro envg18 _ ⟨rfl, hl, e0, e3, e15⟩
    try simp only [↓WD, W0, evalOp, Nat.reduceEqDiff, Nat.reduceLT, ↓reduceIte, reduceCtorEq, hl, e0, e3, e15]
    refine CondK_boo (fun c21 => ?_) (fun c21 => ?_)
    · rw [if_pos c21] at hF
      try simp only [↓WD, W0, evalOp, Nat.reduceEqDiff, Nat.reduceLT, ↓reduceIte, reduceCtorEq, hl, e0, e3, e15]
      rw [AW_region]
      refine AE_joinR (fun e h' => h4 = h' ∧ e.length = 58 ∧ e.getD 2 .undef = .bool false) (by
        simp only [↓WE, WA, WL, aop, ofValue, ofCell, isConst, abin, acall1, abuiltin, aun, AV.cells, AV.one, Nat.reduceAdd, Int.reduceLT, Int.reduceLE, ↓WD, W0, evalOp, Nat.reduceEqDiff, Nat.reduceLT, ↓reduceIte, reduceCtorEq, hl, e0, e3, e15]
        exact ⟨rfl, (by simp only [List.length_set, hl]), (by simp only [W0, Nat.reduceEqDiff, Nat.reduceLT, ↓reduceIte, hl, e0, e3, e15])⟩) ?_
      rintro envg22 _ ⟨rfl, hl, e2⟩
      try simp only [↓WD, W0, evalOp, Nat.reduceEqDiff, Nat.reduceLT, ↓reduceIte, reduceCtorEq, hl, e2]
      refine KP_ret (vs := [.bool false]) (by simp only [aresults, aresult, gs, List.length_set, Nat.reduceEqDiff, Nat.reduceLT, ↓reduceIte, hl, e2]) ?_
      obtain rfl := Option.some.inj hF
      exact ⟨rfl, S7⟩
    · rw [if_neg (nf c21)] at hF
      try simp only [↓WD, W0, evalOp, Nat.reduceEqDiff, Nat.reduceLT, ↓reduceIte, reduceCtorEq, hl, e0, e3, e15]
      rw [AW_region]
      refine AE_joinR (fun e h' => h4 = h' ∧ e.length = 58 ∧ e.getD 0 .undef = .int .i64 c ∧ e.getD 3 .undef = .int .i64 y13 ∧ e.getD 4 .undef = .int .i64 0 ∧ e.getD 5 .undef = .int .i64 (-1)) (by
        simp only [↓WE, WA, WL, aop, ofValue, ofCell, isConst, abin, acall1, abuiltin, aun, AV.cells, AV.one, Nat.reduceAdd, Int.reduceLT, Int.reduceLE, ↓WD, W0, evalOp, Nat.reduceEqDiff, Nat.reduceLT, ↓reduceIte, reduceCtorEq, hl, e0, e3, e15]
        exact ⟨rfl, (by simp only [List.length_set, hl]), (by simp only [W0, Nat.reduceEqDiff, Nat.reduceLT, ↓reduceIte, hl, e0, e3, e15]), (by simp only [W0, Nat.reduceEqDiff, Nat.reduceLT, ↓reduceIte, hl, e0, e3, e15]), (by simp only [W0, Nat.reduceEqDiff, Nat.reduceLT, ↓reduceIte, hl, e0, e3, e15]), (by simp only [W0, Nat.reduceEqDiff, Nat.reduceLT, ↓reduceIte, hl, e0, e3, e15])⟩) ?_
      rintro envg23 _ ⟨rfl, hl, e0, e3, e4, e5⟩
      try simp only [↓WD, W0, evalOp, Nat.reduceEqDiff, Nat.reduceLT, ↓reduceIte, reduceCtorEq, hl, e0, e3, e4, e5]
      rw [AW_region]
      obtain ⟨y24, qy24, hF⟩ := obind hF
      obtain ⟨u28, h26, og25, _, rfl, S27⟩ := (W_fold_Table n12 m (by omega) h4  qy24).out
      have S31 : Sep h [] h26 [.row u28 29 3 (y24.map GA3_i64.cells)] := S7.call0 S27
      have ol32 := RO.len (P := Tryd.prog) sl_27 (S31.row_ro (i := 0) rfl)
      rw [List.length_map] at ol32
      refine AE_joinR (fun e h' => h26 = h' ∧ e.length = 58 ∧ e.getD 0 .undef = .int .i64 c ∧ e.getD 3 .undef = .int .i64 y13 ∧ e.getD 4 .undef = .int .i64 0 ∧ e.getD 5 .undef = .int .i64 (-1) ∧ e.getD 16 .undef = u28 ∧ e.getD 17 .undef = .int .i64 (y24.length : Int) ∧ e.getD 18 .undef = .int .i64 0) (by
        simp only [↓WE, WA, WL, aop, ofValue, ofCell, isConst, abin, acall1, abuiltin, aun, AV.cells, AV.one, Nat.reduceAdd, Int.reduceLT, Int.reduceLE, ↓WD, W0, evalOp, Nat.reduceEqDiff, Nat.reduceLT, ↓reduceIte, reduceCtorEq, hl, e0, e3, e4, e5, og25, ol32]
        exact ⟨rfl, (by simp only [List.length_set, hl]), (by simp only [W0, Nat.reduceEqDiff, Nat.reduceLT, ↓reduceIte, hl, e0, e3, e4, e5]), (by simp only [W0, Nat.reduceEqDiff, Nat.reduceLT, ↓reduceIte, hl, e0, e3, e4, e5]), (by simp only [W0, Nat.reduceEqDiff, Nat.reduceLT, ↓reduceIte, hl, e0, e3, e4, e5]), (by simp only [W0, Nat.reduceEqDiff, Nat.reduceLT, ↓reduceIte, hl, e0, e3, e4, e5]), (by simp only [W0, Nat.reduceEqDiff, Nat.reduceLT, ↓reduceIte, hl, e0, e3, e4, e5]), (by simp only [W0, Nat.reduceEqDiff, Nat.reduceLT, ↓reduceIte, hl, e0, e3, e4, e5]), (by simp only [W0, Nat.reduceEqDiff, Nat.reduceLT, ↓reduceIte, hl, e0, e3, e4, e5])⟩) ?_
      rintro envg33 _ ⟨rfl, hl, e0, e3, e4, e5, e16, e17, e18⟩
      try simp only [↓WD, W0, evalOp, Nat.reduceEqDiff, Nat.reduceLT, ↓reduceIte, reduceCtorEq, hl, e0, e3, e4, e5, e16, e17, e18]
      obtain ⟨r206, qr206, hF⟩ := obind hF
      refine AW_lift (L_law14_FoldSmall_1 y24 c) (fun s e h' => e.length = 58 ∧ e.getD 0 .undef = .int .i64 c ∧ e.getD 3 .undef = .int .i64 y13 ∧ e.getD 4 .undef = .int .i64 s.1 ∧ e.getD 5 .undef = .int .i64 s.2.1 ∧ e.getD 16 .undef = u28 ∧ e.getD 17 .undef = .int .i64 (y24.length : Int) ∧ e.getD 18 .undef = .int .i64 s.2.2 ∧ Sep h [] h' [.row u28 29 3 (y24.map GA3_i64.cells)]) (fun r206 x e h' => (∃ (t207 : Int), r206 = (.inl t207) ∧ x = .exit 0 ∧ e.length = 58 ∧ e.getD 0 .undef = .int .i64 c ∧ e.getD 3 .undef = .int .i64 y13 ∧ e.getD 4 .undef = .int .i64 t207 ∧ Sep h [] h' []) ∨ (∃ (t210 : Unit), r206 = (.inr t210) ∧ x = .ret ∧ e.length = 58 ∧ e.getD 2 .undef = .bool false ∧ Sep h [] h' [])) qr206 (by omega) ?_ ?_ ?_
      · rintro s envr206 h120 or206 ⟨hl, e0, e3, e4, e5, e16, e17, e18, S121⟩ wr206
        rw [L_law14_FoldSmall_1] at wr206
        try simp only [↓WD, W0, evalOp, Nat.reduceEqDiff, Nat.reduceLT, ↓reduceIte, reduceCtorEq, hl, e0, e3, e4, e5, e16, e17, e18]
        rw [AW_region]
        refine AE_joinR (fun e h' => h120 = h' ∧ e.length = 58 ∧ e.getD 0 .undef = .int .i64 c ∧ e.getD 3 .undef = .int .i64 y13 ∧ e.getD 4 .undef = .int .i64 s.1 ∧ e.getD 5 .undef = .int .i64 s.2.1 ∧ e.getD 16 .undef = u28 ∧ e.getD 17 .undef = .int .i64 (y24.length : Int) ∧ e.getD 18 .undef = .int .i64 s.2.2 ∧ e.getD 19 .undef = .bool (decide (s.2.2 < (y24.length : Int)))) (by
          simp only [↓WE, WA, WL, aop, ofValue, ofCell, isConst, abin, acall1, abuiltin, aun, AV.cells, AV.one, Nat.reduceAdd, Int.reduceLT, Int.reduceLE, ↓WD, W0, evalOp, Nat.reduceEqDiff, Nat.reduceLT, ↓reduceIte, reduceCtorEq, hl, e0, e3, e4, e5, e16, e17, e18]
          exact ⟨rfl, (by simp only [List.length_set, hl]), (by simp only [W0, Nat.reduceEqDiff, Nat.reduceLT, ↓reduceIte, hl, e0, e3, e4, e5, e16, e17, e18]), (by simp only [W0, Nat.reduceEqDiff, Nat.reduceLT, ↓reduceIte, hl, e0, e3, e4, e5, e16, e17, e18]), (by simp only [W0, Nat.reduceEqDiff, Nat.reduceLT, ↓reduceIte, hl, e0, e3, e4, e5, e16, e17, e18]), (by simp only [W0, Nat.reduceEqDiff, Nat.reduceLT, ↓reduceIte, hl, e0, e3, e4, e5, e16, e17, e18]), (by simp only [W0, Nat.reduceEqDiff, Nat.reduceLT, ↓reduceIte, hl, e0, e3, e4, e5, e16, e17, e18]), (by simp only [W0, Nat.reduceEqDiff, Nat.reduceLT, ↓reduceIte, hl, e0, e3, e4, e5, e16, e17, e18]), (by simp only [W0, Nat.reduceEqDiff, Nat.reduceLT, ↓reduceIte, hl, e0, e3, e4, e5, e16, e17, e18]), (by simp only [W0, Nat.reduceEqDiff, Nat.reduceLT, ↓reduceIte, hl, e0, e3, e4, e5, e16, e17, e18])⟩) ?_
        rintro envg122 _ ⟨rfl, hl, e0, e3, e4, e5, e16, e17, e18, e19⟩
        try simp only [↓WD, W0, evalOp, Nat.reduceEqDiff, Nat.reduceLT, ↓reduceIte, reduceCtorEq, hl, e0, e3, e4, e5, e16, e17, e18, e19]
        refine CondK_dec (fun c124 => ?_) (fun c124 => ?_)
        · rw [if_pos c124] at wr206
          try simp only [↓WD, W0, evalOp, Nat.reduceEqDiff, Nat.reduceLT, ↓reduceIte, reduceCtorEq, hl, e0, e3, e4, e5, e16, e17, e18, e19]
          rw [AW_region]
          obtain ⟨x125, qx125, wr206⟩ := obind wr206
          obtain ⟨i126, off127, oi128, hp129⟩ := RO.addr (P := Tryd.prog) sl_27 (S121.row_ro (i := 0) rfl) qx125
          have ol130 := RO.ld (P := Tryd.prog) (S121.row_ro (i := 0) rfl) hp129 qx125 (t := 29) (o := 0) (v := .agg [.int .i64 x125.x0, .int .i64 x125.x1, .int .i64 x125.x2]) (by omega) (by simp only [apart, ag_29, sz_29]; rfl)
          simp only [Nat.add_zero] at ol130
          obtain ⟨i131, h132, oa133, S134⟩ := S121.alloc 29 [.int .i64 0, .int .i64 0, .int .i64 0]
          have S136 : Sep h [] h132 [.row u28 29 3 (y24.map GA3_i64.cells), .blk i131 ([0, 0, 0].map (AV.int .i64)) 29] := S134
          obtain ⟨_, q140, wr206⟩ := obind wr206
          obtain ⟨_, q141, wr206⟩ := obind wr206
          obtain ⟨h137, os138, S139⟩ := S136.storeAll (P := Tryd.prog) 1 rfl (t := 29) sz_29 q140 q141
          simp only [List.map_cons, List.map_nil] at os138
          have S142 : Sep h [] h137 [.row u28 29 3 (y24.map GA3_i64.cells), .blk i131 ([x125.x0, x125.x1, x125.x2].map (AV.int .i64)) 29] := S139
          refine AE_joinR (fun e h' => h137 = h' ∧ e.length = 58 ∧ e.getD 0 .undef = .int .i64 c ∧ e.getD 3 .undef = .int .i64 y13 ∧ e.getD 4 .undef = .int .i64 s.1 ∧ e.getD 5 .undef = .int .i64 s.2.1 ∧ e.getD 7 .undef = .ptr i131 0 ∧ e.getD 16 .undef = u28 ∧ e.getD 17 .undef = .int .i64 (y24.length : Int) ∧ e.getD 18 .undef = .int .i64 s.2.2) (by
            simp only [↓WE, WA, WL, aop, ofValue, ofCell, isConst, abin, acall1, abuiltin, aun, AV.cells, AV.one, Nat.reduceAdd, Int.reduceLT, Int.reduceLE, ↓WD, W0, evalOp, Nat.reduceEqDiff, Nat.reduceLT, ↓reduceIte, reduceCtorEq, hl, e0, e3, e4, e5, e16, e17, e18, e19, oi128, ol130, zero_29, oa133, os138]
            exact ⟨rfl, (by simp only [List.length_set, hl]), (by simp only [W0, Nat.reduceEqDiff, Nat.reduceLT, ↓reduceIte, hl, e0, e3, e4, e5, e16, e17, e18, e19]), (by simp only [W0, Nat.reduceEqDiff, Nat.reduceLT, ↓reduceIte, hl, e0, e3, e4, e5, e16, e17, e18, e19]), (by simp only [W0, Nat.reduceEqDiff, Nat.reduceLT, ↓reduceIte, hl, e0, e3, e4, e5, e16, e17, e18, e19]), (by simp only [W0, Nat.reduceEqDiff, Nat.reduceLT, ↓reduceIte, hl, e0, e3, e4, e5, e16, e17, e18, e19]), (by simp only [W0, Nat.reduceEqDiff, Nat.reduceLT, ↓reduceIte, hl, e0, e3, e4, e5, e16, e17, e18, e19]), (by simp only [W0, Nat.reduceEqDiff, Nat.reduceLT, ↓reduceIte, hl, e0, e3, e4, e5, e16, e17, e18, e19]), (by simp only [W0, Nat.reduceEqDiff, Nat.reduceLT, ↓reduceIte, hl, e0, e3, e4, e5, e16, e17, e18, e19]), (by simp only [W0, Nat.reduceEqDiff, Nat.reduceLT, ↓reduceIte, hl, e0, e3, e4, e5, e16, e17, e18, e19])⟩) ?_
          rintro envg143 _ ⟨rfl, hl, e0, e3, e4, e5, e7, e16, e17, e18⟩
          try simp only [↓WD, W0, evalOp, Nat.reduceEqDiff, Nat.reduceLT, ↓reduceIte, reduceCtorEq, hl, e0, e3, e4, e5, e7, e16, e17, e18]
          rw [AW_region]
          obtain ⟨j166, qj166, wr206⟩ := obind wr206
          refine AE_joinR (fun e h' => e.length = 58 ∧ e.getD 0 .undef = .int .i64 c ∧ e.getD 3 .undef = .int .i64 y13 ∧ e.getD 4 .undef = .int .i64 s.1 ∧ e.getD 7 .undef = .ptr i131 0 ∧ e.getD 16 .undef = u28 ∧ e.getD 17 .undef = .int .i64 (y24.length : Int) ∧ e.getD 18 .undef = .int .i64 s.2.2 ∧ e.getD 37 .undef = .bool j166 ∧ Sep h [] h' [.row u28 29 3 (y24.map GA3_i64.cells), .blk i131 ([x125.x0, x125.x1, x125.x2].map (AV.int .i64)) 29]) ?_ ?_
          · obtain ⟨_, q144, qj166⟩ := obind qj166
            have oi145 := ia_29 i131 0 .i64 (chkIdx_lo q144) (chkIdx_hi q144)
            obtain ⟨y147, qy147, qj166⟩ := obind qj166
            have ol146 := S142.load (P := Tryd.prog) 1 rfl (t := 3) (apart_idxA ag_3 qy147)
            simp only [↓WE, WA, WL, aop, ofValue, ofCell, isConst, abin, acall1, abuiltin, aun, AV.cells, AV.one, Nat.reduceAdd, Int.reduceLT, Int.reduceLE, ↓WD, W0, evalOp, Nat.reduceEqDiff, Nat.reduceLT, ↓reduceIte, reduceCtorEq, hl, e0, e3, e4, e5, e7, e16, e17, e18, oi145, ol146]
            refine GuardW_dec (fun c148 => ?_) (fun c148 => ?_)
            · rw [if_pos c148] at qj166
              have d149 : (decide (y147 ≤ s.2.1)) = true := decide_eq_true c148
              simp only [↓WE, WA, WL, aop, ofValue, ofCell, isConst, abin, acall1, abuiltin, aun, AV.cells, AV.one, Nat.reduceAdd, Int.reduceLT, Int.reduceLE, ↓WD, W0, evalOp, Nat.reduceEqDiff, Nat.reduceLT, ↓reduceIte, reduceCtorEq, hl, e0, e3, e4, e5, e7, e16, e17, e18, oi145, ol146, d149]
              obtain rfl := Option.some.inj qj166
              exact ⟨(by simp only [List.length_set, hl]), (by simp only [W0, Nat.reduceEqDiff, Nat.reduceLT, ↓reduceIte, hl, e0, e3, e4, e5, e7, e16, e17, e18]), (by simp only [W0, Nat.reduceEqDiff, Nat.reduceLT, ↓reduceIte, hl, e0, e3, e4, e5, e7, e16, e17, e18]), (by simp only [W0, Nat.reduceEqDiff, Nat.reduceLT, ↓reduceIte, hl, e0, e3, e4, e5, e7, e16, e17, e18]), (by simp only [W0, Nat.reduceEqDiff, Nat.reduceLT, ↓reduceIte, hl, e0, e3, e4, e5, e7, e16, e17, e18]), (by simp only [W0, Nat.reduceEqDiff, Nat.reduceLT, ↓reduceIte, hl, e0, e3, e4, e5, e7, e16, e17, e18]), (by simp only [W0, Nat.reduceEqDiff, Nat.reduceLT, ↓reduceIte, hl, e0, e3, e4, e5, e7, e16, e17, e18]), (by simp only [W0, Nat.reduceEqDiff, Nat.reduceLT, ↓reduceIte, hl, e0, e3, e4, e5, e7, e16, e17, e18]), (by simp only [W0, Nat.reduceEqDiff, Nat.reduceLT, ↓reduceIte, hl, e0, e3, e4, e5, e7, e16, e17, e18]), S142⟩
            · rw [if_neg c148] at qj166
              have d150 : (decide (y147 ≤ s.2.1)) = false := decide_eq_false c148
              obtain ⟨_, q151, qj166⟩ := obind qj166
              have oi152 := ia_29 i131 0 .i64 (chkIdx_lo q151) (chkIdx_hi q151)
              obtain ⟨y154, qy154, qj166⟩ := obind qj166
              have ol153 := S142.load (P := Tryd.prog) 1 rfl (t := 3) (apart_idxA ag_3 qy154)
              obtain ⟨_, q155, qj166⟩ := obind qj166
              have oi156 := ia_29 i131 0 .i64 (chkIdx_lo q155) (chkIdx_hi q155)
              have ol157 := S142.load (P := Tryd.prog) 1 rfl (t := 3) (apart_idxA ag_3 qy147)
              simp only [↓WE, WA, WL, aop, ofValue, ofCell, isConst, abin, acall1, abuiltin, aun, AV.cells, AV.one, Nat.reduceAdd, Int.reduceLT, Int.reduceLE, ↓WD, W0, evalOp, Nat.reduceEqDiff, Nat.reduceLT, ↓reduceIte, reduceCtorEq, hl, e0, e3, e4, e5, e7, e16, e17, e18, oi145, ol146, oi152, ol153, oi156, ol157, d150]
              refine GuardW_dec (fun c159 => ?_) (fun c159 => ?_)
              · rw [if_pos c159] at qj166
                have d160 : (decide (y154 < y147)) = true := decide_eq_true c159
                simp only [↓WE, WA, WL, aop, ofValue, ofCell, isConst, abin, acall1, abuiltin, aun, AV.cells, AV.one, Nat.reduceAdd, Int.reduceLT, Int.reduceLE, ↓WD, W0, evalOp, Nat.reduceEqDiff, Nat.reduceLT, ↓reduceIte, reduceCtorEq, hl, e0, e3, e4, e5, e7, e16, e17, e18, oi145, ol146, oi152, ol153, oi156, ol157, d150, d160]
                obtain rfl := Option.some.inj qj166
                exact ⟨(by simp only [List.length_set, hl]), (by simp only [W0, Nat.reduceEqDiff, Nat.reduceLT, ↓reduceIte, hl, e0, e3, e4, e5, e7, e16, e17, e18]), (by simp only [W0, Nat.reduceEqDiff, Nat.reduceLT, ↓reduceIte, hl, e0, e3, e4, e5, e7, e16, e17, e18]), (by simp only [W0, Nat.reduceEqDiff, Nat.reduceLT, ↓reduceIte, hl, e0, e3, e4, e5, e7, e16, e17, e18]), (by simp only [W0, Nat.reduceEqDiff, Nat.reduceLT, ↓reduceIte, hl, e0, e3, e4, e5, e7, e16, e17, e18]), (by simp only [W0, Nat.reduceEqDiff, Nat.reduceLT, ↓reduceIte, hl, e0, e3, e4, e5, e7, e16, e17, e18]), (by simp only [W0, Nat.reduceEqDiff, Nat.reduceLT, ↓reduceIte, hl, e0, e3, e4, e5, e7, e16, e17, e18]), (by simp only [W0, Nat.reduceEqDiff, Nat.reduceLT, ↓reduceIte, hl, e0, e3, e4, e5, e7, e16, e17, e18]), (by simp only [W0, Nat.reduceEqDiff, Nat.reduceLT, ↓reduceIte, hl, e0, e3, e4, e5, e7, e16, e17, e18]), S142⟩
              · rw [if_neg c159] at qj166
                have d161 : (decide (y154 < y147)) = false := decide_eq_false c159
                obtain ⟨_, q162, qj166⟩ := obind qj166
                have oi163 := ia_29 i131 0 .i64 (chkIdx_lo q162) (chkIdx_hi q162)
                obtain ⟨y165, qy165, qj166⟩ := obind qj166
                have ol164 := S142.load (P := Tryd.prog) 1 rfl (t := 3) (apart_idxA ag_3 qy165)
                simp only [↓WE, WA, WL, aop, ofValue, ofCell, isConst, abin, acall1, abuiltin, aun, AV.cells, AV.one, Nat.reduceAdd, Int.reduceLT, Int.reduceLE, ↓WD, W0, evalOp, Nat.reduceEqDiff, Nat.reduceLT, ↓reduceIte, reduceCtorEq, hl, e0, e3, e4, e5, e7, e16, e17, e18, oi145, ol146, oi152, ol153, oi156, ol157, oi163, ol164, d150, d161]
                obtain rfl := Option.some.inj qj166
                exact ⟨(by simp only [List.length_set, hl]), (by simp only [W0, Nat.reduceEqDiff, Nat.reduceLT, ↓reduceIte, hl, e0, e3, e4, e5, e7, e16, e17, e18]), (by simp only [W0, Nat.reduceEqDiff, Nat.reduceLT, ↓reduceIte, hl, e0, e3, e4, e5, e7, e16, e17, e18]), (by simp only [W0, Nat.reduceEqDiff, Nat.reduceLT, ↓reduceIte, hl, e0, e3, e4, e5, e7, e16, e17, e18]), (by simp only [W0, Nat.reduceEqDiff, Nat.reduceLT, ↓reduceIte, hl, e0, e3, e4, e5, e7, e16, e17, e18]), (by simp only [W0, Nat.reduceEqDiff, Nat.reduceLT, ↓reduceIte, hl, e0, e3, e4, e5, e7, e16, e17, e18]), (by simp only [W0, Nat.reduceEqDiff, Nat.reduceLT, ↓reduceIte, hl, e0, e3, e4, e5, e7, e16, e17, e18]), (by simp only [W0, Nat.reduceEqDiff, Nat.reduceLT, ↓reduceIte, hl, e0, e3, e4, e5, e7, e16, e17, e18]), (by simp only [W0, Nat.reduceEqDiff, Nat.reduceLT, ↓reduceIte, hl, e0, e3, e4, e5, e7, e16, e17, e18]), S142⟩
          · rintro envj166 h168 ⟨hl, e0, e3, e4, e7, e16, e17, e18, e37, S167⟩
            try simp only [↓WD, W0, evalOp, Nat.reduceEqDiff, Nat.reduceLT, ↓reduceIte, reduceCtorEq, hl, e0, e3, e4, e7, e16, e17, e18, e37]
            refine CondK_boo (fun c171 => ?_) (fun c171 => ?_)
            · rw [if_pos c171] at wr206
              try simp only [↓WD, W0, evalOp, Nat.reduceEqDiff, Nat.reduceLT, ↓reduceIte, reduceCtorEq, hl, e0, e3, e4, e7, e16, e17, e18, e37]
              rw [AW_region]
              refine AE_joinR (fun e h' => h168 = h' ∧ e.length = 58 ∧ e.getD 2 .undef = .bool false) (by
                simp only [↓WE, WA, WL, aop, ofValue, ofCell, isConst, abin, acall1, abuiltin, aun, AV.cells, AV.one, Nat.reduceAdd, Int.reduceLT, Int.reduceLE, ↓WD, W0, evalOp, Nat.reduceEqDiff, Nat.reduceLT, ↓reduceIte, reduceCtorEq, hl, e0, e3, e4, e7, e16, e17, e18, e37]
                exact ⟨rfl, (by simp only [List.length_set, hl]), (by simp only [W0, Nat.reduceEqDiff, Nat.reduceLT, ↓reduceIte, hl, e0, e3, e4, e7, e16, e17, e18, e37])⟩) ?_
              rintro envg172 _ ⟨rfl, hl, e2⟩
              try simp only [↓WD, W0, evalOp, Nat.reduceEqDiff, Nat.reduceLT, ↓reduceIte, reduceCtorEq, hl, e2]
              obtain rfl := Option.some.inj wr206
              rw [KP_nil, QL_ret]
              exact ⟨_, rfl, .inr (⟨_, rfl, rfl, (by simp only [List.length_set, hl]), (by simp only [W0, Nat.reduceEqDiff, Nat.reduceLT, ↓reduceIte, hl, e2]), S167.pick [] (by decide) rfl⟩)⟩
            · rw [if_neg (nf c171)] at wr206
              try simp only [↓WD, W0, evalOp, Nat.reduceEqDiff, Nat.reduceLT, ↓reduceIte, reduceCtorEq, hl, e0, e3, e4, e7, e16, e17, e18, e37]
              rw [AW_region]
              obtain ⟨_, q173, wr206⟩ := obind wr206
              have oi174 := ia_29 i131 0 .i64 (chkIdx_lo q173) (chkIdx_hi q173)
              obtain ⟨y176, qy176, wr206⟩ := obind wr206
              have ol175 := S167.load (P := Tryd.prog) 1 rfl (t := 3) (apart_idxA ag_3 qy176)
              refine AE_joinR (fun e h' => h168 = h' ∧ e.length = 58 ∧ e.getD 0 .undef = .int .i64 c ∧ e.getD 3 .undef = .int .i64 y13 ∧ e.getD 4 .undef = .int .i64 s.1 ∧ e.getD 5 .undef = .int .i64 y176 ∧ e.getD 7 .undef = .ptr i131 0 ∧ e.getD 16 .undef = u28 ∧ e.getD 17 .undef = .int .i64 (y24.length : Int) ∧ e.getD 18 .undef = .int .i64 s.2.2) (by
                simp only [↓WE, WA, WL, aop, ofValue, ofCell, isConst, abin, acall1, abuiltin, aun, AV.cells, AV.one, Nat.reduceAdd, Int.reduceLT, Int.reduceLE, ↓WD, W0, evalOp, Nat.reduceEqDiff, Nat.reduceLT, ↓reduceIte, reduceCtorEq, hl, e0, e3, e4, e7, e16, e17, e18, e37, oi174, ol175]
                exact ⟨rfl, (by simp only [List.length_set, hl]), (by simp only [W0, Nat.reduceEqDiff, Nat.reduceLT, ↓reduceIte, hl, e0, e3, e4, e7, e16, e17, e18, e37]), (by simp only [W0, Nat.reduceEqDiff, Nat.reduceLT, ↓reduceIte, hl, e0, e3, e4, e7, e16, e17, e18, e37]), (by simp only [W0, Nat.reduceEqDiff, Nat.reduceLT, ↓reduceIte, hl, e0, e3, e4, e7, e16, e17, e18, e37]), (by simp only [W0, Nat.reduceEqDiff, Nat.reduceLT, ↓reduceIte, hl, e0, e3, e4, e7, e16, e17, e18, e37]), (by simp only [W0, Nat.reduceEqDiff, Nat.reduceLT, ↓reduceIte, hl, e0, e3, e4, e7, e16, e17, e18, e37]), (by simp only [W0, Nat.reduceEqDiff, Nat.reduceLT, ↓reduceIte, hl, e0, e3, e4, e7, e16, e17, e18, e37]), (by simp only [W0, Nat.reduceEqDiff, Nat.reduceLT, ↓reduceIte, hl, e0, e3, e4, e7, e16, e17, e18, e37]), (by simp only [W0, Nat.reduceEqDiff, Nat.reduceLT, ↓reduceIte, hl, e0, e3, e4, e7, e16, e17, e18, e37])⟩) ?_
              rintro envg177 _ ⟨rfl, hl, e0, e3, e4, e5, e7, e16, e17, e18⟩
              try simp only [↓WD, W0, evalOp, Nat.reduceEqDiff, Nat.reduceLT, ↓reduceIte, reduceCtorEq, hl, e0, e3, e4, e5, e7, e16, e17, e18]
              rw [AW_region]
              obtain ⟨j189, qj189, wr206⟩ := obind wr206
              refine AE_joinR (fun e h' => e.length = 58 ∧ e.getD 0 .undef = .int .i64 c ∧ e.getD 3 .undef = .int .i64 y13 ∧ e.getD 4 .undef = .int .i64 s.1 ∧ e.getD 5 .undef = .int .i64 y176 ∧ e.getD 7 .undef = .ptr i131 0 ∧ e.getD 16 .undef = u28 ∧ e.getD 17 .undef = .int .i64 (y24.length : Int) ∧ e.getD 18 .undef = .int .i64 s.2.2 ∧ e.getD 49 .undef = .bool j189 ∧ Sep h [] h' [.row u28 29 3 (y24.map GA3_i64.cells), .blk i131 ([x125.x0, x125.x1, x125.x2].map (AV.int .i64)) 29]) ?_ ?_
              · obtain ⟨_, q178, qj189⟩ := obind qj189
                have oi179 := ia_29 i131 0 .i64 (chkIdx_lo q178) (chkIdx_hi q178)
                obtain ⟨y181, qy181, qj189⟩ := obind qj189
                have ol180 := S167.load (P := Tryd.prog) 1 rfl (t := 3) (apart_idxA ag_3 qy181)
                simp only [↓WE, WA, WL, aop, ofValue, ofCell, isConst, abin, acall1, abuiltin, aun, AV.cells, AV.one, Nat.reduceAdd, Int.reduceLT, Int.reduceLE, ↓WD, W0, evalOp, Nat.reduceEqDiff, Nat.reduceLT, ↓reduceIte, reduceCtorEq, hl, e0, e3, e4, e5, e7, e16, e17, e18, oi179, ol180]
                refine GuardW_dec (fun c182 => ?_) (fun c182 => ?_)
                · rw [if_pos c182] at qj189
                  have d183 : (decide (c ≥ y181)) = true := decide_eq_true c182
                  obtain ⟨_, q185, qj189⟩ := obind qj189
                  have oi186 := ia_29 i131 0 .i64 (chkIdx_lo q185) (chkIdx_hi q185)
                  have ol187 := S167.load (P := Tryd.prog) 1 rfl (t := 3) (apart_idxA ag_3 qy176)
                  simp only [↓WE, WA, WL, aop, ofValue, ofCell, isConst, abin, acall1, abuiltin, aun, AV.cells, AV.one, Nat.reduceAdd, Int.reduceLT, Int.reduceLE, ↓WD, W0, evalOp, Nat.reduceEqDiff, Nat.reduceLT, ↓reduceIte, reduceCtorEq, hl, e0, e3, e4, e5, e7, e16, e17, e18, oi179, ol180, oi186, ol187, d183]
                  obtain rfl := Option.some.inj qj189
                  exact ⟨(by simp only [List.length_set, hl]), (by simp only [W0, Nat.reduceEqDiff, Nat.reduceLT, ↓reduceIte, hl, e0, e3, e4, e5, e7, e16, e17, e18]), (by simp only [W0, Nat.reduceEqDiff, Nat.reduceLT, ↓reduceIte, hl, e0, e3, e4, e5, e7, e16, e17, e18]), (by simp only [W0, Nat.reduceEqDiff, Nat.reduceLT, ↓reduceIte, hl, e0, e3, e4, e5, e7, e16, e17, e18]), (by simp only [W0, Nat.reduceEqDiff, Nat.reduceLT, ↓reduceIte, hl, e0, e3, e4, e5, e7, e16, e17, e18]), (by simp only [W0, Nat.reduceEqDiff, Nat.reduceLT, ↓reduceIte, hl, e0, e3, e4, e5, e7, e16, e17, e18]), (by simp only [W0, Nat.reduceEqDiff, Nat.reduceLT, ↓reduceIte, hl, e0, e3, e4, e5, e7, e16, e17, e18]), (by simp only [W0, Nat.reduceEqDiff, Nat.reduceLT, ↓reduceIte, hl, e0, e3, e4, e5, e7, e16, e17, e18]), (by simp only [W0, Nat.reduceEqDiff, Nat.reduceLT, ↓reduceIte, hl, e0, e3, e4, e5, e7, e16, e17, e18]), (by simp only [W0, Nat.reduceEqDiff, Nat.reduceLT, ↓reduceIte, hl, e0, e3, e4, e5, e7, e16, e17, e18]), S167⟩
                · rw [if_neg c182] at qj189
                  have d184 : (decide (c ≥ y181)) = false := decide_eq_false c182
                  simp only [↓WE, WA, WL, aop, ofValue, ofCell, isConst, abin, acall1, abuiltin, aun, AV.cells, AV.one, Nat.reduceAdd, Int.reduceLT, Int.reduceLE, ↓WD, W0, evalOp, Nat.reduceEqDiff, Nat.reduceLT, ↓reduceIte, reduceCtorEq, hl, e0, e3, e4, e5, e7, e16, e17, e18, oi179, ol180, d184]
                  obtain rfl := Option.some.inj qj189
                  exact ⟨(by simp only [List.length_set, hl]), (by simp only [W0, Nat.reduceEqDiff, Nat.reduceLT, ↓reduceIte, hl, e0, e3, e4, e5, e7, e16, e17, e18]), (by simp only [W0, Nat.reduceEqDiff, Nat.reduceLT, ↓reduceIte, hl, e0, e3, e4, e5, e7, e16, e17, e18]), (by simp only [W0, Nat.reduceEqDiff, Nat.reduceLT, ↓reduceIte, hl, e0, e3, e4, e5, e7, e16, e17, e18]), (by simp only [W0, Nat.reduceEqDiff, Nat.reduceLT, ↓reduceIte, hl, e0, e3, e4, e5, e7, e16, e17, e18]), (by simp only [W0, Nat.reduceEqDiff, Nat.reduceLT, ↓reduceIte, hl, e0, e3, e4, e5, e7, e16, e17, e18]), (by simp only [W0, Nat.reduceEqDiff, Nat.reduceLT, ↓reduceIte, hl, e0, e3, e4, e5, e7, e16, e17, e18]), (by simp only [W0, Nat.reduceEqDiff, Nat.reduceLT, ↓reduceIte, hl, e0, e3, e4, e5, e7, e16, e17, e18]), (by simp only [W0, Nat.reduceEqDiff, Nat.reduceLT, ↓reduceIte, hl, e0, e3, e4, e5, e7, e16, e17, e18]), (by simp only [W0, Nat.reduceEqDiff, Nat.reduceLT, ↓reduceIte, hl, e0, e3, e4, e5, e7, e16, e17, e18]), S167⟩
              · rintro envj189 h191 ⟨hl, e0, e3, e4, e5, e7, e16, e17, e18, e49, S190⟩
                try simp only [↓WD, W0, evalOp, Nat.reduceEqDiff, Nat.reduceLT, ↓reduceIte, reduceCtorEq, hl, e0, e3, e4, e5, e7, e16, e17, e18, e49]
                refine CondK_boo (fun c198 => ?_) (fun c198 => ?_)
                · rw [if_pos c198] at wr206
                  try simp only [↓WD, W0, evalOp, Nat.reduceEqDiff, Nat.reduceLT, ↓reduceIte, reduceCtorEq, hl, e0, e3, e4, e5, e7, e16, e17, e18, e49]
                  rw [AW_region]
                  obtain ⟨_, q199, wr206⟩ := obind wr206
                  have oi200 := ia_29 i131 0 .i64 (chkIdx_lo q199) (chkIdx_hi q199)
                  obtain ⟨y202, qy202, wr206⟩ := obind wr206
                  have ol201 := S190.load (P := Tryd.prog) 1 rfl (t := 3) (apart_idxA ag_3 qy202)
                  refine AE_joinR (fun e h' => h191 = h' ∧ e.length = 58 ∧ e.getD 0 .undef = .int .i64 c ∧ e.getD 3 .undef = .int .i64 y13 ∧ e.getD 4 .undef = .int .i64 y202 ∧ e.getD 5 .undef = .int .i64 y176 ∧ e.getD 16 .undef = u28 ∧ e.getD 17 .undef = .int .i64 (y24.length : Int) ∧ e.getD 18 .undef = .int .i64 s.2.2) (by
                    simp only [↓WE, WA, WL, aop, ofValue, ofCell, isConst, abin, acall1, abuiltin, aun, AV.cells, AV.one, Nat.reduceAdd, Int.reduceLT, Int.reduceLE, ↓WD, W0, evalOp, Nat.reduceEqDiff, Nat.reduceLT, ↓reduceIte, reduceCtorEq, hl, e0, e3, e4, e5, e7, e16, e17, e18, e49, oi200, ol201]
                    exact ⟨rfl, (by simp only [List.length_set, hl]), (by simp only [W0, Nat.reduceEqDiff, Nat.reduceLT, ↓reduceIte, hl, e0, e3, e4, e5, e7, e16, e17, e18, e49]), (by simp only [W0, Nat.reduceEqDiff, Nat.reduceLT, ↓reduceIte, hl, e0, e3, e4, e5, e7, e16, e17, e18, e49]), (by simp only [W0, Nat.reduceEqDiff, Nat.reduceLT, ↓reduceIte, hl, e0, e3, e4, e5, e7, e16, e17, e18, e49]), (by simp only [W0, Nat.reduceEqDiff, Nat.reduceLT, ↓reduceIte, hl, e0, e3, e4, e5, e7, e16, e17, e18, e49]), (by simp only [W0, Nat.reduceEqDiff, Nat.reduceLT, ↓reduceIte, hl, e0, e3, e4, e5, e7, e16, e17, e18, e49]), (by simp only [W0, Nat.reduceEqDiff, Nat.reduceLT, ↓reduceIte, hl, e0, e3, e4, e5, e7, e16, e17, e18, e49]), (by simp only [W0, Nat.reduceEqDiff, Nat.reduceLT, ↓reduceIte, hl, e0, e3, e4, e5, e7, e16, e17, e18, e49])⟩) ?_
                  rintro envg203 _ ⟨rfl, hl, e0, e3, e4, e5, e16, e17, e18⟩
                  try simp only [↓WD, W0, evalOp, Nat.reduceEqDiff, Nat.reduceLT, ↓reduceIte, reduceCtorEq, hl, e0, e3, e4, e5, e16, e17, e18]
                  rw [AW_region]
                  refine AE_joinR (fun e h' => h191 = h' ∧ e.length = 58 ∧ e.getD 0 .undef = .int .i64 c ∧ e.getD 3 .undef = .int .i64 y13 ∧ e.getD 4 .undef = .int .i64 y202 ∧ e.getD 5 .undef = .int .i64 y176 ∧ e.getD 16 .undef = u28 ∧ e.getD 17 .undef = .int .i64 (y24.length : Int) ∧ e.getD 18 .undef = .int .i64 (IntKind.i64.wrap (s.2.2 + 1))) (by
                    simp only [↓WE, WA, WL, aop, ofValue, ofCell, isConst, abin, acall1, abuiltin, aun, AV.cells, AV.one, Nat.reduceAdd, Int.reduceLT, Int.reduceLE, ↓WD, W0, evalOp, Nat.reduceEqDiff, Nat.reduceLT, ↓reduceIte, reduceCtorEq, hl, e0, e3, e4, e5, e16, e17, e18]
                    exact ⟨rfl, (by simp only [List.length_set, hl]), (by simp only [W0, Nat.reduceEqDiff, Nat.reduceLT, ↓reduceIte, hl, e0, e3, e4, e5, e16, e17, e18]), (by simp only [W0, Nat.reduceEqDiff, Nat.reduceLT, ↓reduceIte, hl, e0, e3, e4, e5, e16, e17, e18]), (by simp only [W0, Nat.reduceEqDiff, Nat.reduceLT, ↓reduceIte, hl, e0, e3, e4, e5, e16, e17, e18]), (by simp only [W0, Nat.reduceEqDiff, Nat.reduceLT, ↓reduceIte, hl, e0, e3, e4, e5, e16, e17, e18]), (by simp only [W0, Nat.reduceEqDiff, Nat.reduceLT, ↓reduceIte, hl, e0, e3, e4, e5, e16, e17, e18]), (by simp only [W0, Nat.reduceEqDiff, Nat.reduceLT, ↓reduceIte, hl, e0, e3, e4, e5, e16, e17, e18]), (by simp only [W0, Nat.reduceEqDiff, Nat.reduceLT, ↓reduceIte, hl, e0, e3, e4, e5, e16, e17, e18])⟩) ?_
                  rintro envg204 _ ⟨rfl, hl, e0, e3, e4, e5, e16, e17, e18⟩
                  try simp only [↓WD, W0, evalOp, Nat.reduceEqDiff, Nat.reduceLT, ↓reduceIte, reduceCtorEq, hl, e0, e3, e4, e5, e16, e17, e18]
                  obtain rfl := Option.some.inj wr206
                  rw [KP_nil, QL_normal]
                  exact ⟨_, rfl, (by simp only [List.length_set, hl]), (by simp only [W0, Nat.reduceEqDiff, Nat.reduceLT, ↓reduceIte, hl, e0, e3, e4, e5, e16, e17, e18]), (by simp only [W0, Nat.reduceEqDiff, Nat.reduceLT, ↓reduceIte, hl, e0, e3, e4, e5, e16, e17, e18]), (by simp only [W0, Nat.reduceEqDiff, Nat.reduceLT, ↓reduceIte, hl, e0, e3, e4, e5, e16, e17, e18]), (by simp only [W0, Nat.reduceEqDiff, Nat.reduceLT, ↓reduceIte, hl, e0, e3, e4, e5, e16, e17, e18]), (by simp only [W0, Nat.reduceEqDiff, Nat.reduceLT, ↓reduceIte, hl, e0, e3, e4, e5, e16, e17, e18]), (by simp only [W0, Nat.reduceEqDiff, Nat.reduceLT, ↓reduceIte, hl, e0, e3, e4, e5, e16, e17, e18]), (by simp only [W0, Nat.reduceEqDiff, Nat.reduceLT, ↓reduceIte, hl, e0, e3, e4, e5, e16, e17, e18]), S190.pick [0] (by decide) rfl⟩
                · rw [if_neg (nf c198)] at wr206
                  try simp only [↓WD, W0, evalOp, Nat.reduceEqDiff, Nat.reduceLT, ↓reduceIte, reduceCtorEq, hl, e0, e3, e4, e5, e7, e16, e17, e18, e49]
                  rw [AW_region]
                  refine AE_joinR (fun e h' => h191 = h' ∧ e.length = 58 ∧ e.getD 0 .undef = .int .i64 c ∧ e.getD 3 .undef = .int .i64 y13 ∧ e.getD 4 .undef = .int .i64 s.1 ∧ e.getD 5 .undef = .int .i64 y176 ∧ e.getD 16 .undef = u28 ∧ e.getD 17 .undef = .int .i64 (y24.length : Int) ∧ e.getD 18 .undef = .int .i64 (IntKind.i64.wrap (s.2.2 + 1))) (by
                    simp only [↓WE, WA, WL, aop, ofValue, ofCell, isConst, abin, acall1, abuiltin, aun, AV.cells, AV.one, Nat.reduceAdd, Int.reduceLT, Int.reduceLE, ↓WD, W0, evalOp, Nat.reduceEqDiff, Nat.reduceLT, ↓reduceIte, reduceCtorEq, hl, e0, e3, e4, e5, e7, e16, e17, e18, e49]
                    exact ⟨rfl, (by simp only [List.length_set, hl]), (by simp only [W0, Nat.reduceEqDiff, Nat.reduceLT, ↓reduceIte, hl, e0, e3, e4, e5, e7, e16, e17, e18, e49]), (by simp only [W0, Nat.reduceEqDiff, Nat.reduceLT, ↓reduceIte, hl, e0, e3, e4, e5, e7, e16, e17, e18, e49]), (by simp only [W0, Nat.reduceEqDiff, Nat.reduceLT, ↓reduceIte, hl, e0, e3, e4, e5, e7, e16, e17, e18, e49]), (by simp only [W0, Nat.reduceEqDiff, Nat.reduceLT, ↓reduceIte, hl, e0, e3, e4, e5, e7, e16, e17, e18, e49]), (by simp only [W0, Nat.reduceEqDiff, Nat.reduceLT, ↓reduceIte, hl, e0, e3, e4, e5, e7, e16, e17, e18, e49]), (by simp only [W0, Nat.reduceEqDiff, Nat.reduceLT, ↓reduceIte, hl, e0, e3, e4, e5, e7, e16, e17, e18, e49]), (by simp only [W0, Nat.reduceEqDiff, Nat.reduceLT, ↓reduceIte, hl, e0, e3, e4, e5, e7, e16, e17, e18, e49])⟩) ?_
                  rintro envg205 _ ⟨rfl, hl, e0, e3, e4, e5, e16, e17, e18⟩
                  try simp only [↓WD, W0, evalOp, Nat.reduceEqDiff, Nat.reduceLT, ↓reduceIte, reduceCtorEq, hl, e0, e3, e4, e5, e16, e17, e18]
                  obtain rfl := Option.some.inj wr206
                  rw [KP_nil, QL_normal]
                  exact ⟨_, rfl, (by simp only [List.length_set, hl]), (by simp only [W0, Nat.reduceEqDiff, Nat.reduceLT, ↓reduceIte, hl, e0, e3, e4, e5, e16, e17, e18]), (by simp only [W0, Nat.reduceEqDiff, Nat.reduceLT, ↓reduceIte, hl, e0, e3, e4, e5, e16, e17, e18]), (by simp only [W0, Nat.reduceEqDiff, Nat.reduceLT, ↓reduceIte, hl, e0, e3, e4, e5, e16, e17, e18]), (by simp only [W0, Nat.reduceEqDiff, Nat.reduceLT, ↓reduceIte, hl, e0, e3, e4, e5, e16, e17, e18]), (by simp only [W0, Nat.reduceEqDiff, Nat.reduceLT, ↓reduceIte, hl, e0, e3, e4, e5, e16, e17, e18]), (by simp only [W0, Nat.reduceEqDiff, Nat.reduceLT, ↓reduceIte, hl, e0, e3, e4, e5, e16, e17, e18]), (by simp only [W0, Nat.reduceEqDiff, Nat.reduceLT, ↓reduceIte, hl, e0, e3, e4, e5, e16, e17, e18]), S190.pick [0] (by decide) rfl⟩
        · rw [if_neg c124] at wr206
          try simp only [↓WD, W0, evalOp, Nat.reduceEqDiff, Nat.reduceLT, ↓reduceIte, reduceCtorEq, hl, e0, e3, e4, e5, e16, e17, e18, e19]
          obtain rfl := Option.some.inj wr206
          rw [KP_nil, QL_exit]
          exact ⟨_, rfl, .inl ⟨_, rfl, rfl, (by simp only [List.length_set, hl]), (by simp only [W0, Nat.reduceEqDiff, Nat.reduceLT, ↓reduceIte, hl, e0, e3, e4, e5, e16, e17, e18, e19]), (by simp only [W0, Nat.reduceEqDiff, Nat.reduceLT, ↓reduceIte, hl, e0, e3, e4, e5, e16, e17, e18, e19]), (by simp only [W0, Nat.reduceEqDiff, Nat.reduceLT, ↓reduceIte, hl, e0, e3, e4, e5, e16, e17, e18, e19]), S121.pick [] (by decide) rfl⟩⟩
      · exact ⟨(by simp only [List.length_set, hl]), (by simp only [W0, Nat.reduceEqDiff, Nat.reduceLT, ↓reduceIte, hl, e0, e3, e4, e5, e16, e17, e18]), (by simp only [W0, Nat.reduceEqDiff, Nat.reduceLT, ↓reduceIte, hl, e0, e3, e4, e5, e16, e17, e18]), (by simp only [W0, Nat.reduceEqDiff, Nat.reduceLT, ↓reduceIte, hl, e0, e3, e4, e5, e16, e17, e18]), (by simp only [W0, Nat.reduceEqDiff, Nat.reduceLT, ↓reduceIte, hl, e0, e3, e4, e5, e16, e17, e18]), (by simp only [W0, Nat.reduceEqDiff, Nat.reduceLT, ↓reduceIte, hl, e0, e3, e4, e5, e16, e17, e18]), (by simp only [W0, Nat.reduceEqDiff, Nat.reduceLT, ↓reduceIte, hl, e0, e3, e4, e5, e16, e17, e18]), (by simp only [W0, Nat.reduceEqDiff, Nat.reduceLT, ↓reduceIte, hl, e0, e3, e4, e5, e16, e17, e18]), S31⟩
      · intro x envr206 h208 hk
        rcases hk with ⟨t207, rfl, rfl, hl, e0, e3, e4, S209⟩ | ⟨t210, rfl, rfl, hl, e2, S212⟩
        · skip
          rw [sumK_inl] at hF
          try simp only [↓WD, W0, evalOp, Nat.reduceEqDiff, Nat.reduceLT, ↓reduceIte, reduceCtorEq, hl, e0, e3, e4]
          rw [AW_region]
          refine AE_joinR (fun e h' => h208 = h' ∧ e.length = 58 ∧ e.getD 2 .undef = .bool ((IntKind.i64.wrap (y13 - c)) == t207)) (by
            simp only [↓WE, WA, WL, aop, ofValue, ofCell, isConst, abin, acall1, abuiltin, aun, AV.cells, AV.one, Nat.reduceAdd, Int.reduceLT, Int.reduceLE, ↓WD, W0, evalOp, Nat.reduceEqDiff, Nat.reduceLT, ↓reduceIte, reduceCtorEq, hl, e0, e3, e4]
            exact ⟨rfl, (by simp only [List.length_set, hl]), (by simp only [W0, Nat.reduceEqDiff, Nat.reduceLT, ↓reduceIte, hl, e0, e3, e4])⟩) ?_
          rintro envg213 _ ⟨rfl, hl, e2⟩
          try simp only [↓WD, W0, evalOp, Nat.reduceEqDiff, Nat.reduceLT, ↓reduceIte, reduceCtorEq, hl, e2]
          refine KP_ret (vs := [.bool ((IntKind.i64.wrap (y13 - c)) == t207)]) (by simp only [aresults, aresult, gs, List.length_set, Nat.reduceEqDiff, Nat.reduceLT, ↓reduceIte, hl, e2]) ?_
          obtain rfl := Option.some.inj hF
          exact ⟨rfl, S209⟩
        · skip
          rw [sumK_inr] at hF
          try simp only [↓WD, W0, evalOp, Nat.reduceEqDiff, Nat.reduceLT, ↓reduceIte, reduceCtorEq, hl, e2]
          refine KP_ret (vs := [.bool false]) (by simp only [aresults, aresult, gs, List.length_set, Nat.reduceEqDiff, Nat.reduceLT, ↓reduceIte, hl, e2]) ?_
          obtain rfl := Option.some.inj hF
          exact ⟨rfl, S212⟩
set_option maxRecDepth 100000 in
set_option maxHeartbeats 4000000 in
theorem W_law14_FoldJoined {K : PureK} (k8 : K 8 = some kf_8) (k10 : K 10 = some kf_10) (k25 : K 25 = some hb77) (n6 : K 6 = none) (n7 : K 7 = none) (n9 : K 9 = none) (n12 : K 12 = none) (n13 : K 13 = none) (n14 : K 14 = none) (n15 : K 15 = none) (n16 : K 16 = none) (n21 : K 21 = none) (n22 : K 22 = none) (n23 : K 23 = none) (n26 : K 26 = none) (n5 : K 5 = none) (m : Nat) (hm : NF + 8 ≤ m) (h : AH) (hG : GL h) (a : List UInt8) (b : List UInt8) {r : Bool} (hF : F_law14_FoldJoined a b = some r) :
    AR (acall Tryd.prog (hooksOf K) (drawnOf Tryd.prog (tabOf K)) m 5 [.str a, .str b] h) (fun v h' => v = .bool r ∧ Sep h [] h' []) := by
  obtain ⟨m, rfl⟩ : ∃ k, m = k + 1 := ⟨m - 1, by omega⟩
  refine AR_call (hooksOf_none n5) Tryd.func5 rfl _ _ fun env hl he => ?_
  have e0 := he 0
  have e1 := he 1
  simp only [List.getD_cons_zero, List.getD_cons_succ] at e0 e1
  simp only [Tryd.f5] at hl ⊢
  simp only [List.length_cons, List.length_nil, Nat.reduceAdd, Nat.reduceSub] at hl
  clear he
  have S0 : Sep h [] h [] := Sep.nil h
  rw [F_law14_FoldJoined] at hF
  try simp only [↓WD, W0, evalOp, Nat.reduceEqDiff, Nat.reduceLT, ↓reduceIte, reduceCtorEq, hl, e0, e1]
  rw [AW_region]
  refine AE_joinR (fun e h' => h = h' ∧ e.length = 35 ∧ e.getD 0 .undef = .str a ∧ e.getD 1 .undef = .str b) (by
    simp only [↓WE, WA, WL, aop, ofValue, ofCell, isConst, abin, acall1, abuiltin, aun, AV.cells, AV.one, Nat.reduceAdd, Int.reduceLT, Int.reduceLE, ↓WD, W0, evalOp, Nat.reduceEqDiff, Nat.reduceLT, ↓reduceIte, reduceCtorEq, hl, e0, e1]
    exact ⟨rfl, (by simp only [List.length_set, hl]), (by simp only [W0, Nat.reduceEqDiff, Nat.reduceLT, ↓reduceIte, hl, e0, e1]), (by simp only [W0, Nat.reduceEqDiff, Nat.reduceLT, ↓reduceIte, hl, e0, e1])⟩) ?_
  rintro envg1 _ ⟨rfl, hl, e0, e1⟩
  try simp only [↓WD, W0, evalOp, Nat.reduceEqDiff, Nat.reduceLT, ↓reduceIte, reduceCtorEq, hl, e0, e1]
  rw [AW_region]
  obtain ⟨y2, qy2, hF⟩ := obind hF
  obtain ⟨v6, h4, og3, rfl, S5⟩ := (W_law14_awake k10 k25 n7 n9 n12 n13 n14 n15 n16 n21 n22 n23 n26 n6 m (by omega) h (GL.keep0 S0 hG)  qy2).out
  have S7 : Sep h [] h4 [] := S0.call0 S5
  refine AE_joinR (fun e h' => h4 = h' ∧ e.length = 35 ∧ e.getD 0 .undef = .str a ∧ e.getD 1 .undef = .str b ∧ e.getD 6 .undef = .bool !y2) (by
    simp only [↓WE, WA, WL, aop, ofValue, ofCell, isConst, abin, acall1, abuiltin, aun, AV.cells, AV.one, Nat.reduceAdd, Int.reduceLT, Int.reduceLE, ↓WD, W0, evalOp, Nat.reduceEqDiff, Nat.reduceLT, ↓reduceIte, reduceCtorEq, hl, e0, e1, og3]
    exact ⟨rfl, (by simp only [List.length_set, hl]), (by simp only [W0, Nat.reduceEqDiff, Nat.reduceLT, ↓reduceIte, hl, e0, e1]), (by simp only [W0, Nat.reduceEqDiff, Nat.reduceLT, ↓reduceIte, hl, e0, e1]), (by simp only [W0, Nat.reduceEqDiff, Nat.reduceLT, ↓reduceIte, hl, e0, e1])⟩) ?_
  rintro envg8 _ ⟨rfl, hl, e0, e1, e6⟩
  try simp only [↓WD, W0, evalOp, Nat.reduceEqDiff, Nat.reduceLT, ↓reduceIte, reduceCtorEq, hl, e0, e1, e6]
  refine CondK_boo (fun c11 => ?_) (fun c11 => ?_)
  · rw [if_pos c11] at hF
    try simp only [↓WD, W0, evalOp, Nat.reduceEqDiff, Nat.reduceLT, ↓reduceIte, reduceCtorEq, hl, e0, e1, e6]
    rw [AW_region]
    refine AE_joinR (fun e h' => h4 = h' ∧ e.length = 35 ∧ e.getD 4 .undef = .bool false) (by
      simp only [↓WE, WA, WL, aop, ofValue, ofCell, isConst, abin, acall1, abuiltin, aun, AV.cells, AV.one, Nat.reduceAdd, Int.reduceLT, Int.reduceLE, ↓WD, W0, evalOp, Nat.reduceEqDiff, Nat.reduceLT, ↓reduceIte, reduceCtorEq, hl, e0, e1, e6]
      exact ⟨rfl, (by simp only [List.length_set, hl]), (by simp only [W0, Nat.reduceEqDiff, Nat.reduceLT, ↓reduceIte, hl, e0, e1, e6])⟩) ?_
    rintro envg12 _ ⟨rfl, hl, e4⟩
    try simp only [↓WD, W0, evalOp, Nat.reduceEqDiff, Nat.reduceLT, ↓reduceIte, reduceCtorEq, hl, e4]
    refine KP_ret (vs := [.bool false]) (by simp only [aresults, aresult, gs, List.length_set, Nat.reduceEqDiff, Nat.reduceLT, ↓reduceIte, hl, e4]) ?_
    obtain rfl := Option.some.inj hF
    exact ⟨rfl, S7⟩
  · rw [if_neg (nf c11)] at hF
    try simp only [↓WD, W0, evalOp, Nat.reduceEqDiff, Nat.reduceLT, ↓reduceIte, reduceCtorEq, hl, e0, e1, e6]
    rw [AW_region]
    obtain ⟨j18, qj18, hF⟩ := obind hF
    refine AE_joinR (fun e h' => e.length = 35 ∧ e.getD 0 .undef = .str a ∧ e.getD 1 .undef = .str b ∧ e.getD 14 .undef = .bool j18 ∧ Sep h [] h' []) ?_ ?_
    · have ol13 := fun g : AH => alen_str (P := Tryd.prog) (h := g) (l := a) Tryd.underlying9
      simp only [↓WE, WA, WL, aop, ofValue, ofCell, isConst, abin, acall1, abuiltin, aun, AV.cells, AV.one, Nat.reduceAdd, Int.reduceLT, Int.reduceLE, ↓WD, W0, evalOp, Nat.reduceEqDiff, Nat.reduceLT, ↓reduceIte, reduceCtorEq, hl, e0, e1, e6, ol13]
      refine GuardW_dec (fun c14 => ?_) (fun c14 => ?_)
      · rw [if_pos c14] at qj18
        have d15 : (decide ((a.length : Int) > 100)) = true := decide_eq_true c14
        simp only [↓WE, WA, WL, aop, ofValue, ofCell, isConst, abin, acall1, abuiltin, aun, AV.cells, AV.one, Nat.reduceAdd, Int.reduceLT, Int.reduceLE, ↓WD, W0, evalOp, Nat.reduceEqDiff, Nat.reduceLT, ↓reduceIte, reduceCtorEq, hl, e0, e1, e6, ol13, d15]
        obtain rfl := Option.some.inj qj18
        exact ⟨(by simp only [List.length_set, hl]), (by simp only [W0, Nat.reduceEqDiff, Nat.reduceLT, ↓reduceIte, hl, e0, e1, e6]), (by simp only [W0, Nat.reduceEqDiff, Nat.reduceLT, ↓reduceIte, hl, e0, e1, e6]), (by simp only [W0, Nat.reduceEqDiff, Nat.reduceLT, ↓reduceIte, hl, e0, e1, e6]), S7⟩
      · rw [if_neg c14] at qj18
        have d16 : (decide ((a.length : Int) > 100)) = false := decide_eq_false c14
        have ol17 := fun g : AH => alen_str (P := Tryd.prog) (h := g) (l := b) Tryd.underlying9
        simp only [↓WE, WA, WL, aop, ofValue, ofCell, isConst, abin, acall1, abuiltin, aun, AV.cells, AV.one, Nat.reduceAdd, Int.reduceLT, Int.reduceLE, ↓WD, W0, evalOp, Nat.reduceEqDiff, Nat.reduceLT, ↓reduceIte, reduceCtorEq, hl, e0, e1, e6, ol13, ol17, d16]
        obtain rfl := Option.some.inj qj18
        exact ⟨(by simp only [List.length_set, hl]), (by simp only [W0, Nat.reduceEqDiff, Nat.reduceLT, ↓reduceIte, hl, e0, e1, e6]), (by simp only [W0, Nat.reduceEqDiff, Nat.reduceLT, ↓reduceIte, hl, e0, e1, e6]), (by simp only [W0, Nat.reduceEqDiff, Nat.reduceLT, ↓reduceIte, hl, e0, e1, e6]), S7⟩
    · rintro envj18 h20 ⟨hl, e0, e1, e14, S19⟩
      try simp only [↓WD, W0, evalOp, Nat.reduceEqDiff, Nat.reduceLT, ↓reduceIte, reduceCtorEq, hl, e0, e1, e14]
      refine CondK_boo (fun c23 => ?_) (fun c23 => ?_)
      · rw [if_pos c23] at hF
        try simp only [↓WD, W0, evalOp, Nat.reduceEqDiff, Nat.reduceLT, ↓reduceIte, reduceCtorEq, hl, e0, e1, e14]
        rw [AW_region]
        refine AE_joinR (fun e h' => h20 = h' ∧ e.length = 35 ∧ e.getD 4 .undef = .bool true) (by
          simp only [↓WE, WA, WL, aop, ofValue, ofCell, isConst, abin, acall1, abuiltin, aun, AV.cells, AV.one, Nat.reduceAdd, Int.reduceLT, Int.reduceLE, ↓WD, W0, evalOp, Nat.reduceEqDiff, Nat.reduceLT, ↓reduceIte, reduceCtorEq, hl, e0, e1, e14]
          exact ⟨rfl, (by simp only [List.length_set, hl]), (by simp only [W0, Nat.reduceEqDiff, Nat.reduceLT, ↓reduceIte, hl, e0, e1, e14])⟩) ?_
        rintro envg24 _ ⟨rfl, hl, e4⟩
        try simp only [↓WD, W0, evalOp, Nat.reduceEqDiff, Nat.reduceLT, ↓reduceIte, reduceCtorEq, hl, e4]
        refine KP_ret (vs := [.bool true]) (by simp only [aresults, aresult, gs, List.length_set, Nat.reduceEqDiff, Nat.reduceLT, ↓reduceIte, hl, e4]) ?_
        obtain rfl := Option.some.inj hF
        exact ⟨rfl, S19⟩
      · rw [if_neg (nf c23)] at hF
        try simp only [↓WD, W0, evalOp, Nat.reduceEqDiff, Nat.reduceLT, ↓reduceIte, reduceCtorEq, hl, e0, e1, e14]
        rw [AW_region]
        obtain ⟨y25, qy25, hF⟩ := obind hF
        obtain ⟨v29, h27, og26, rfl, S28⟩ := (W_fold_Alike k10 k25 n7 n13 n14 n15 n16 n21 n22 n23 n26 n9 m (by omega) h20 (GL.keep0 S19 hG) a b qy25).out
        have S30 : Sep h [] h27 [] := S19.call0 S28
        obtain ⟨y31, qy31, hF⟩ := obind hF
        have og32 := fun (D : Drawn) (n : Nat) (g : AH) => call_hook (P := Tryd.prog) (D := D) k8 n (args := [.str a]) (v := .str y31) ((kf_8_eq a).trans (by rw [qy31]; rfl)) g
        obtain ⟨y33, qy33, hF⟩ := obind hF
        have og34 := fun (D : Drawn) (n : Nat) (g : AH) => call_hook (P := Tryd.prog) (D := D) k8 n (args := [.str b]) (v := .str y33) ((kf_8_eq b).trans (by rw [qy33]; rfl)) g
        refine AE_joinR (fun e h' => h27 = h' ∧ e.length = 35 ∧ e.getD 0 .undef = .str a ∧ e.getD 1 .undef = .str b ∧ e.getD 23 .undef = .bool (!(y25 == (y31 == y33)))) (by
          simp only [↓WE, WA, WL, aop, ofValue, ofCell, isConst, abin, acall1, abuiltin, aun, AV.cells, AV.one, Nat.reduceAdd, Int.reduceLT, Int.reduceLE, ↓WD, W0, evalOp, Nat.reduceEqDiff, Nat.reduceLT, ↓reduceIte, reduceCtorEq, hl, e0, e1, e14, og26, og32, og34, eqb_4_neq_00]
          exact ⟨rfl, (by simp only [List.length_set, hl]), (by simp only [W0, Nat.reduceEqDiff, Nat.reduceLT, ↓reduceIte, hl, e0, e1, e14]), (by simp only [W0, Nat.reduceEqDiff, Nat.reduceLT, ↓reduceIte, hl, e0, e1, e14]), (by simp only [W0, Nat.reduceEqDiff, Nat.reduceLT, ↓reduceIte, hl, e0, e1, e14])⟩) ?_
        rintro envg35 _ ⟨rfl, hl, e0, e1, e23⟩
        try simp only [↓WD, W0, evalOp, Nat.reduceEqDiff, Nat.reduceLT, ↓reduceIte, reduceCtorEq, hl, e0, e1, e23]
        refine CondK_boo (fun c38 => ?_) (fun c38 => ?_)
        · rw [if_pos c38] at hF
          try simp only [↓WD, W0, evalOp, Nat.reduceEqDiff, Nat.reduceLT, ↓reduceIte, reduceCtorEq, hl, e0, e1, e23]
          rw [AW_region]
          refine AE_joinR (fun e h' => h27 = h' ∧ e.length = 35 ∧ e.getD 4 .undef = .bool false) (by
            simp only [↓WE, WA, WL, aop, ofValue, ofCell, isConst, abin, acall1, abuiltin, aun, AV.cells, AV.one, Nat.reduceAdd, Int.reduceLT, Int.reduceLE, ↓WD, W0, evalOp, Nat.reduceEqDiff, Nat.reduceLT, ↓reduceIte, reduceCtorEq, hl, e0, e1, e23]
            exact ⟨rfl, (by simp only [List.length_set, hl]), (by simp only [W0, Nat.reduceEqDiff, Nat.reduceLT, ↓reduceIte, hl, e0, e1, e23])⟩) ?_
          rintro envg39 _ ⟨rfl, hl, e4⟩
          try simp only [↓WD, W0, evalOp, Nat.reduceEqDiff, Nat.reduceLT, ↓reduceIte, reduceCtorEq, hl, e4]
          refine KP_ret (vs := [.bool false]) (by simp only [aresults, aresult, gs, List.length_set, Nat.reduceEqDiff, Nat.reduceLT, ↓reduceIte, hl, e4]) ?_
          obtain rfl := Option.some.inj hF
          exact ⟨rfl, S30⟩
        · rw [if_neg (nf c38)] at hF
          try simp only [↓WD, W0, evalOp, Nat.reduceEqDiff, Nat.reduceLT, ↓reduceIte, reduceCtorEq, hl, e0, e1, e23]
          rw [AW_region]
          obtain ⟨s40, qs40, hF⟩ := obind hF
          have os40 := cat_str qs40
          obtain ⟨s41, qs41, hF⟩ := obind hF
          have os41 := cat_str qs41
          obtain ⟨y42, qy42, hF⟩ := obind hF
          obtain ⟨v46, h44, og43, rfl, S45⟩ := (W_fold_Fold k10 k25 n13 n14 n15 n16 n21 n22 n23 n26 n7 m (by omega) h27 (GL.keep0 S30 hG) b qy42).out
          have S47 : Sep h [] h44 [] := S30.call0 S45
          obtain ⟨s48, qs48, hF⟩ := obind hF
          have os48 := cat_str qs48
          obtain ⟨y49, qy49, hF⟩ := obind hF
          obtain ⟨v53, h51, og50, rfl, S52⟩ := (W_fold_Fold k10 k25 n13 n14 n15 n16 n21 n22 n23 n26 n7 m (by omega) h44 (GL.keep0 S47 hG) a qy49).out
          have S54 : Sep h [] h51 [] := S47.call0 S52
          obtain ⟨s55, qs55, hF⟩ := obind hF
          have os55 := cat_str qs55
          obtain ⟨y56, qy56, hF⟩ := obind hF
          obtain ⟨v60, h58, og57, rfl, S59⟩ := (W_fold_Alike k10 k25 n7 n13 n14 n15 n16 n21 n22 n23 n26 n9 m (by omega) h51 (GL.keep0 S54 hG) s41 s55 qy56).out
          have S61 : Sep h [] h58 [] := S54.call0 S59
          refine AE_joinR (fun e h' => h58 = h' ∧ e.length = 35 ∧ e.getD 4 .undef = .bool y56) (by
            simp only [↓WE, WA, WL, aop, ofValue, ofCell, isConst, abin, acall1, abuiltin, aun, AV.cells, AV.one, Nat.reduceAdd, Int.reduceLT, Int.reduceLE, ↓WD, W0, evalOp, Nat.reduceEqDiff, Nat.reduceLT, ↓reduceIte, reduceCtorEq, hl, e0, e1, e23, os40, os41, og43, os48, og50, os55, og57]
            exact ⟨rfl, (by simp only [List.length_set, hl]), (by simp only [W0, Nat.reduceEqDiff, Nat.reduceLT, ↓reduceIte, hl, e0, e1, e23])⟩) ?_
          rintro envg62 _ ⟨rfl, hl, e4⟩
          try simp only [↓WD, W0, evalOp, Nat.reduceEqDiff, Nat.reduceLT, ↓reduceIte, reduceCtorEq, hl, e4]
          refine KP_ret (vs := [.bool y56]) (by simp only [aresults, aresult, gs, List.length_set, Nat.reduceEqDiff, Nat.reduceLT, ↓reduceIte, hl, e4]) ?_
          obtain rfl := Option.some.inj hF
          exact ⟨rfl, S61⟩
end Go.Proofs.YtikkpmmhejjpaaaDoorM
