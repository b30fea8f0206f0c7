/- The abstract machine computes what the plain functions say: printed by lift.py. -/
import Derived.Test.YtikkpmmhejjpaaaEXW1
set_option linter.unusedSimpArgs false
set_option linter.unusedVariables false
namespace Go.Proofs.YtikkpmmhejjpaaaM
open Go Go.RowKit
set_option maxRecDepth 100000 in
set_option maxHeartbeats 4000000 in
theorem W_law17_ExtraBack {K : PureK} (k13 : K 13 = some kf_13) (k15 : K 15 = some kf_15) (k16 : K 16 = some kf_16) (k18 : K 18 = some kf_18) (k19 : K 19 = some kf_19) (k47 : K 47 = some kf_47) (k77 : K 77 = some hb77) (n20 : K 20 = none) (n21 : K 21 = none) (n23 : K 23 = none) (n24 : K 24 = none) (n26 : K 26 = none) (n27 : K 27 = none) (n28 : K 28 = none) (n30 : K 30 = none) (n50 : K 50 = none) (n51 : K 51 = none) (n52 : K 52 = none) (n69 : K 69 = none) (n5 : K 5 = none) (m : Nat) (hm : NF + 6 ≤ m) (h : AH) (ul : AV) (l : List Gapi_Extra) (hul : RO 2 ul h (l.map Gapi_Extra.cells)) {r : Bool} (hF : F_law17_ExtraBack l = some r) :
    AR (acall Try.prog (hooksOf K) (drawnOf Try.prog (tabOf K)) m 5 [ul] h) (fun v h' => v = .bool r ∧ Sep h [] h' []) := by
  obtain ⟨m, rfl⟩ : ∃ k, m = k + 1 := ⟨m - 1, by omega⟩
  refine AR_call (hooksOf_none n5) Try.func5 rfl _ _ fun env hl he => ?_
  have e0 := he 0
  simp only [List.getD_cons_zero, List.getD_cons_succ] at e0
  simp only [Try.f5] at hl ⊢
  simp only [List.length_cons, List.length_nil, Nat.reduceAdd, Nat.reduceSub] at hl
  clear he
  have S0 : Sep h [] h [] := Sep.nil h
  rw [F_law17_ExtraBack] at hF
  try simp only [↓WD, W0, evalOp, Nat.reduceEqDiff, Nat.reduceLT, ↓reduceIte, reduceCtorEq, hl, e0]
  rw [AW_region]
  refine AE_joinR (fun e h' => h = h' ∧ e.length = 59 ∧ e.getD 0 .undef = ul) (by
    simp only [↓WE, WA, WL, aop, ofValue, ofCell, isConst, abin, acall1, abuiltin, aun, AV.cells, AV.one, Nat.reduceAdd, Int.reduceLT, Int.reduceLE, ↓WD, W0, evalOp, Nat.reduceEqDiff, Nat.reduceLT, ↓reduceIte, reduceCtorEq, hl, e0]
    exact ⟨rfl, (by simp only [List.length_set, hl]), (by simp only [W0, Nat.reduceEqDiff, Nat.reduceLT, ↓reduceIte, hl, e0])⟩) ?_
  rintro envg1 _ ⟨rfl, hl, e0⟩
  try simp only [↓WD, W0, evalOp, Nat.reduceEqDiff, Nat.reduceLT, ↓reduceIte, reduceCtorEq, hl, e0]
  rw [AW_region]
  obtain ⟨y2, qy2, hF⟩ := obind hF
  obtain ⟨v6, h4, og3, rfl, S5⟩ := (W_law17_awake k13 k15 k16 k18 k47 k77 n21 n24 n26 n28 n30 n50 n51 n52 n69 n20 m (by omega) h  qy2).out
  have S7 : Sep h [] h4 [] := S0.call0 S5
  refine AE_joinR (fun e h' => h4 = h' ∧ e.length = 59 ∧ e.getD 0 .undef = ul ∧ e.getD 12 .undef = .bool !y2) (by
    simp only [↓WE, WA, WL, aop, ofValue, ofCell, isConst, abin, acall1, abuiltin, aun, AV.cells, AV.one, Nat.reduceAdd, Int.reduceLT, Int.reduceLE, ↓WD, W0, evalOp, Nat.reduceEqDiff, Nat.reduceLT, ↓reduceIte, reduceCtorEq, hl, e0, og3]
    exact ⟨rfl, (by simp only [List.length_set, hl]), (by simp only [W0, Nat.reduceEqDiff, Nat.reduceLT, ↓reduceIte, hl, e0]), (by simp only [W0, Nat.reduceEqDiff, Nat.reduceLT, ↓reduceIte, hl, e0])⟩) ?_
  rintro envg8 _ ⟨rfl, hl, e0, e12⟩
  try simp only [↓WD, W0, evalOp, Nat.reduceEqDiff, Nat.reduceLT, ↓reduceIte, reduceCtorEq, hl, e0, e12]
  refine CondK_boo (fun c11 => ?_) (fun c11 => ?_)
  · rw [if_pos c11] at hF
    try simp only [↓WD, W0, evalOp, Nat.reduceEqDiff, Nat.reduceLT, ↓reduceIte, reduceCtorEq, hl, e0, e12]
    rw [AW_region]
    refine AE_joinR (fun e h' => h4 = h' ∧ e.length = 59 ∧ e.getD 2 .undef = .bool false) (by
      simp only [↓WE, WA, WL, aop, ofValue, ofCell, isConst, abin, acall1, abuiltin, aun, AV.cells, AV.one, Nat.reduceAdd, Int.reduceLT, Int.reduceLE, ↓WD, W0, evalOp, Nat.reduceEqDiff, Nat.reduceLT, ↓reduceIte, reduceCtorEq, hl, e0, e12]
      exact ⟨rfl, (by simp only [List.length_set, hl]), (by simp only [W0, Nat.reduceEqDiff, Nat.reduceLT, ↓reduceIte, hl, e0, e12])⟩) ?_
    rintro envg12 _ ⟨rfl, hl, e2⟩
    try simp only [↓WD, W0, evalOp, Nat.reduceEqDiff, Nat.reduceLT, ↓reduceIte, reduceCtorEq, hl, e2]
    refine KP_ret (vs := [.bool false]) (by simp only [aresults, aresult, gs, List.length_set, Nat.reduceEqDiff, Nat.reduceLT, ↓reduceIte, hl, e2]) ?_
    obtain rfl := Option.some.inj hF
    exact ⟨rfl, S7⟩
  · rw [if_neg (nf c11)] at hF
    try simp only [↓WD, W0, evalOp, Nat.reduceEqDiff, Nat.reduceLT, ↓reduceIte, reduceCtorEq, hl, e0, e12]
    rw [AW_region]
    have ol13 := RO.len (P := Try.prog) sl_35 (S7.ro hul)
    rw [List.length_map] at ol13
    refine AE_joinR (fun e h' => h4 = h' ∧ e.length = 59 ∧ e.getD 0 .undef = ul ∧ e.getD 15 .undef = .bool (decide ((l.length : Int) > 20))) (by
      simp only [↓WE, WA, WL, aop, ofValue, ofCell, isConst, abin, acall1, abuiltin, aun, AV.cells, AV.one, Nat.reduceAdd, Int.reduceLT, Int.reduceLE, ↓WD, W0, evalOp, Nat.reduceEqDiff, Nat.reduceLT, ↓reduceIte, reduceCtorEq, hl, e0, e12, ol13]
      exact ⟨rfl, (by simp only [List.length_set, hl]), (by simp only [W0, Nat.reduceEqDiff, Nat.reduceLT, ↓reduceIte, hl, e0, e12]), (by simp only [W0, Nat.reduceEqDiff, Nat.reduceLT, ↓reduceIte, hl, e0, e12])⟩) ?_
    rintro envg14 _ ⟨rfl, hl, e0, e15⟩
    try simp only [↓WD, W0, evalOp, Nat.reduceEqDiff, Nat.reduceLT, ↓reduceIte, reduceCtorEq, hl, e0, e15]
    refine CondK_dec (fun c17 => ?_) (fun c17 => ?_)
    · rw [if_pos c17] at hF
      try simp only [↓WD, W0, evalOp, Nat.reduceEqDiff, Nat.reduceLT, ↓reduceIte, reduceCtorEq, hl, e0, e15]
      rw [AW_region]
      refine AE_joinR (fun e h' => h4 = h' ∧ e.length = 59 ∧ e.getD 2 .undef = .bool true) (by
        simp only [↓WE, WA, WL, aop, ofValue, ofCell, isConst, abin, acall1, abuiltin, aun, AV.cells, AV.one, Nat.reduceAdd, Int.reduceLT, Int.reduceLE, ↓WD, W0, evalOp, Nat.reduceEqDiff, Nat.reduceLT, ↓reduceIte, reduceCtorEq, hl, e0, e15]
        exact ⟨rfl, (by simp only [List.length_set, hl]), (by simp only [W0, Nat.reduceEqDiff, Nat.reduceLT, ↓reduceIte, hl, e0, e15])⟩) ?_
      rintro envg18 _ ⟨rfl, hl, e2⟩
      try simp only [↓WD, W0, evalOp, Nat.reduceEqDiff, Nat.reduceLT, ↓reduceIte, reduceCtorEq, hl, e2]
      refine KP_ret (vs := [.bool true]) (by simp only [aresults, aresult, gs, List.length_set, Nat.reduceEqDiff, Nat.reduceLT, ↓reduceIte, hl, e2]) ?_
      obtain rfl := Option.some.inj hF
      exact ⟨rfl, S7⟩
    · rw [if_neg c17] at hF
      try simp only [↓WD, W0, evalOp, Nat.reduceEqDiff, Nat.reduceLT, ↓reduceIte, reduceCtorEq, hl, e0, e15]
      rw [AW_region]
      have ol19 := RO.len (P := Try.prog) sl_35 (S7.ro hul)
      rw [List.length_map] at ol19
      refine AE_joinR (fun e h' => h4 = h' ∧ e.length = 59 ∧ e.getD 0 .undef = ul ∧ e.getD 16 .undef = ul ∧ e.getD 17 .undef = .int .i64 (l.length : Int) ∧ e.getD 18 .undef = .int .i64 0) (by
        simp only [↓WE, WA, WL, aop, ofValue, ofCell, isConst, abin, acall1, abuiltin, aun, AV.cells, AV.one, Nat.reduceAdd, Int.reduceLT, Int.reduceLE, ↓WD, W0, evalOp, Nat.reduceEqDiff, Nat.reduceLT, ↓reduceIte, reduceCtorEq, hl, e0, e15, ol19]
        exact ⟨rfl, (by simp only [List.length_set, hl]), (by simp only [W0, Nat.reduceEqDiff, Nat.reduceLT, ↓reduceIte, hl, e0, e15]), (by simp only [W0, Nat.reduceEqDiff, Nat.reduceLT, ↓reduceIte, hl, e0, e15]), (by simp only [W0, Nat.reduceEqDiff, Nat.reduceLT, ↓reduceIte, hl, e0, e15]), (by simp only [W0, Nat.reduceEqDiff, Nat.reduceLT, ↓reduceIte, hl, e0, e15])⟩) ?_
      rintro envg20 _ ⟨rfl, hl, e0, e16, e17, e18⟩
      try simp only [↓WD, W0, evalOp, Nat.reduceEqDiff, Nat.reduceLT, ↓reduceIte, reduceCtorEq, hl, e0, e16, e17, e18]
      obtain ⟨r81, qr81, hF⟩ := obind hF
      refine AW_lift (L_law17_ExtraBack_1 l) (fun s e h' => e.length = 59 ∧ e.getD 0 .undef = ul ∧ e.getD 16 .undef = ul ∧ e.getD 17 .undef = .int .i64 (l.length : Int) ∧ e.getD 18 .undef = .int .i64 s ∧ Sep h [] h' []) (fun r81 x e h' => (∃ (t82 : Unit), r81 = (.inl t82) ∧ x = .exit 0 ∧ e.length = 59 ∧ e.getD 0 .undef = ul ∧ Sep h [] h' []) ∨ (∃ (t85 : Unit), r81 = (.inr t85) ∧ x = .ret ∧ e.length = 59 ∧ e.getD 2 .undef = .bool true ∧ Sep h [] h' [])) qr81 (by omega) ?_ ?_ ?_
      · rintro s envr81 h51 or81 ⟨hl, e0, e16, e17, e18, S52⟩ wr81
        rw [L_law17_ExtraBack_1] at wr81
        try simp only [↓WD, W0, evalOp, Nat.reduceEqDiff, Nat.reduceLT, ↓reduceIte, reduceCtorEq, hl, e0, e16, e17, e18]
        rw [AW_region]
        refine AE_joinR (fun e h' => h51 = h' ∧ e.length = 59 ∧ e.getD 0 .undef = ul ∧ e.getD 16 .undef = ul ∧ e.getD 17 .undef = .int .i64 (l.length : Int) ∧ e.getD 18 .undef = .int .i64 s ∧ e.getD 19 .undef = .bool (decide (s < (l.length : Int)))) (by
          simp only [↓WE, WA, WL, aop, ofValue, ofCell, isConst, abin, acall1, abuiltin, aun, AV.cells, AV.one, Nat.reduceAdd, Int.reduceLT, Int.reduceLE, ↓WD, W0, evalOp, Nat.reduceEqDiff, Nat.reduceLT, ↓reduceIte, reduceCtorEq, hl, e0, e16, e17, e18]
          exact ⟨rfl, (by simp only [List.length_set, hl]), (by simp only [W0, Nat.reduceEqDiff, Nat.reduceLT, ↓reduceIte, hl, e0, e16, e17, e18]), (by simp only [W0, Nat.reduceEqDiff, Nat.reduceLT, ↓reduceIte, hl, e0, e16, e17, e18]), (by simp only [W0, Nat.reduceEqDiff, Nat.reduceLT, ↓reduceIte, hl, e0, e16, e17, e18]), (by simp only [W0, Nat.reduceEqDiff, Nat.reduceLT, ↓reduceIte, hl, e0, e16, e17, e18]), (by simp only [W0, Nat.reduceEqDiff, Nat.reduceLT, ↓reduceIte, hl, e0, e16, e17, e18])⟩) ?_
        rintro envg53 _ ⟨rfl, hl, e0, e16, e17, e18, e19⟩
        try simp only [↓WD, W0, evalOp, Nat.reduceEqDiff, Nat.reduceLT, ↓reduceIte, reduceCtorEq, hl, e0, e16, e17, e18, e19]
        refine CondK_dec (fun c55 => ?_) (fun c55 => ?_)
        · rw [if_pos c55] at wr81
          try simp only [↓WD, W0, evalOp, Nat.reduceEqDiff, Nat.reduceLT, ↓reduceIte, reduceCtorEq, hl, e0, e16, e17, e18, e19]
          rw [AW_region]
          obtain ⟨x56, qx56, wr81⟩ := obind wr81
          obtain ⟨i57, off58, oi59, hp60⟩ := RO.addr (P := Try.prog) sl_35 (S52.ro hul) qx56
          have ol61 := RO.ld (P := Try.prog) (S52.ro hul) hp60 qx56 (t := 47) (o := 0) (v := .agg [.int .i64 x56.xID, .str x56.xData]) (by omega) (by simp only [apart, ag_47, sz_47]; rfl)
          simp only [Nat.add_zero] at ol61
          obtain ⟨i62, h63, oa64, S65⟩ := S52.alloc 47 [.int .i64 0, .str []]
          have S67 : Sep h [] h63 [.blk i62 [.int .i64 0, .str []] 47] := S65
          obtain ⟨h68, os69, S70⟩ := S67.store (P := Try.prog) 0 rfl (t := 47) (off := 0) (v := .agg [.int .i64 x56.xID, .str x56.xData]) (c' := [.int .i64 x56.xID, .str x56.xData]) rfl sz_47 rfl (by simp) rfl
          have S71 : Sep h [] h68 [.blk i62 [.int .i64 x56.xID, .str x56.xData] 47] := S70
          refine AE_joinR (fun e h' => h68 = h' ∧ e.length = 59 ∧ e.getD 0 .undef = ul ∧ e.getD 4 .undef = .ptr i62 0 ∧ e.getD 16 .undef = ul ∧ e.getD 17 .undef = .int .i64 (l.length : Int) ∧ e.getD 18 .undef = .int .i64 s) (by
            simp only [↓WE, WA, WL, aop, ofValue, ofCell, isConst, abin, acall1, abuiltin, aun, AV.cells, AV.one, Nat.reduceAdd, Int.reduceLT, Int.reduceLE, ↓WD, W0, evalOp, Nat.reduceEqDiff, Nat.reduceLT, ↓reduceIte, reduceCtorEq, hl, e0, e16, e17, e18, e19, oi59, ol61, zero_47, oa64, os69]
            exact ⟨rfl, (by simp only [List.length_set, hl]), (by simp only [W0, Nat.reduceEqDiff, Nat.reduceLT, ↓reduceIte, hl, e0, e16, e17, e18, e19]), (by simp only [W0, Nat.reduceEqDiff, Nat.reduceLT, ↓reduceIte, hl, e0, e16, e17, e18, e19]), (by simp only [W0, Nat.reduceEqDiff, Nat.reduceLT, ↓reduceIte, hl, e0, e16, e17, e18, e19]), (by simp only [W0, Nat.reduceEqDiff, Nat.reduceLT, ↓reduceIte, hl, e0, e16, e17, e18, e19]), (by simp only [W0, Nat.reduceEqDiff, Nat.reduceLT, ↓reduceIte, hl, e0, e16, e17, e18, e19])⟩) ?_
          rintro envg72 _ ⟨rfl, hl, e0, e4, e16, e17, e18⟩
          try simp only [↓WD, W0, evalOp, Nat.reduceEqDiff, Nat.reduceLT, ↓reduceIte, reduceCtorEq, hl, e0, e4, e16, e17, e18]
          rw [AW_region]
          have ol73 := S71.load (P := Try.prog) 0 rfl (t := 9) (off := 1) (v := .str x56.xData) (by simp only [apart, ag_9, sz_9]; rfl)
          have ol74 := fun g : AH => alen_str (P := Try.prog) (h := g) (l := x56.xData) Try.underlying9
          refine AE_joinR (fun e h' => h68 = h' ∧ e.length = 59 ∧ e.getD 0 .undef = ul ∧ e.getD 16 .undef = ul ∧ e.getD 17 .undef = .int .i64 (l.length : Int) ∧ e.getD 18 .undef = .int .i64 s ∧ e.getD 25 .undef = .bool (decide ((x56.xData.length : Int) > 100))) (by
            simp only [↓WE, WA, WL, aop, ofValue, ofCell, isConst, abin, acall1, abuiltin, aun, AV.cells, AV.one, Nat.reduceAdd, Int.reduceLT, Int.reduceLE, ↓WD, W0, evalOp, Nat.reduceEqDiff, Nat.reduceLT, ↓reduceIte, reduceCtorEq, hl, e0, e4, e16, e17, e18, fa_47_1, ol73, ol74]
            exact ⟨rfl, (by simp only [List.length_set, hl]), (by simp only [W0, Nat.reduceEqDiff, Nat.reduceLT, ↓reduceIte, hl, e0, e4, e16, e17, e18]), (by simp only [W0, Nat.reduceEqDiff, Nat.reduceLT, ↓reduceIte, hl, e0, e4, e16, e17, e18]), (by simp only [W0, Nat.reduceEqDiff, Nat.reduceLT, ↓reduceIte, hl, e0, e4, e16, e17, e18]), (by simp only [W0, Nat.reduceEqDiff, Nat.reduceLT, ↓reduceIte, hl, e0, e4, e16, e17, e18]), (by simp only [W0, Nat.reduceEqDiff, Nat.reduceLT, ↓reduceIte, hl, e0, e4, e16, e17, e18])⟩) ?_
          rintro envg75 _ ⟨rfl, hl, e0, e16, e17, e18, e25⟩
          try simp only [↓WD, W0, evalOp, Nat.reduceEqDiff, Nat.reduceLT, ↓reduceIte, reduceCtorEq, hl, e0, e16, e17, e18, e25]
          refine CondK_dec (fun c78 => ?_) (fun c78 => ?_)
          · rw [if_pos c78] at wr81
            try simp only [↓WD, W0, evalOp, Nat.reduceEqDiff, Nat.reduceLT, ↓reduceIte, reduceCtorEq, hl, e0, e16, e17, e18, e25]
            rw [AW_region]
            refine AE_joinR (fun e h' => h68 = h' ∧ e.length = 59 ∧ e.getD 2 .undef = .bool true) (by
              simp only [↓WE, WA, WL, aop, ofValue, ofCell, isConst, abin, acall1, abuiltin, aun, AV.cells, AV.one, Nat.reduceAdd, Int.reduceLT, Int.reduceLE, ↓WD, W0, evalOp, Nat.reduceEqDiff, Nat.reduceLT, ↓reduceIte, reduceCtorEq, hl, e0, e16, e17, e18, e25]
              exact ⟨rfl, (by simp only [List.length_set, hl]), (by simp only [W0, Nat.reduceEqDiff, Nat.reduceLT, ↓reduceIte, hl, e0, e16, e17, e18, e25])⟩) ?_
            rintro envg79 _ ⟨rfl, hl, e2⟩
            try simp only [↓WD, W0, evalOp, Nat.reduceEqDiff, Nat.reduceLT, ↓reduceIte, reduceCtorEq, hl, e2]
            obtain rfl := Option.some.inj wr81
            rw [KP_nil, QL_ret]
            exact ⟨_, rfl, .inr (⟨_, rfl, rfl, (by simp only [List.length_set, hl]), (by simp only [W0, Nat.reduceEqDiff, Nat.reduceLT, ↓reduceIte, hl, e2]), S71.pick [] (by decide) rfl⟩)⟩
          · rw [if_neg c78] at wr81
            try simp only [↓WD, W0, evalOp, Nat.reduceEqDiff, Nat.reduceLT, ↓reduceIte, reduceCtorEq, hl, e0, e16, e17, e18, e25]
            rw [AW_region]
            refine AE_joinR (fun e h' => h68 = h' ∧ e.length = 59 ∧ e.getD 0 .undef = ul ∧ e.getD 16 .undef = ul ∧ e.getD 17 .undef = .int .i64 (l.length : Int) ∧ e.getD 18 .undef = .int .i64 (IntKind.i64.wrap (s + 1))) (by
              simp only [↓WE, WA, WL, aop, ofValue, ofCell, isConst, abin, acall1, abuiltin, aun, AV.cells, AV.one, Nat.reduceAdd, Int.reduceLT, Int.reduceLE, ↓WD, W0, evalOp, Nat.reduceEqDiff, Nat.reduceLT, ↓reduceIte, reduceCtorEq, hl, e0, e16, e17, e18, e25]
              exact ⟨rfl, (by simp only [List.length_set, hl]), (by simp only [W0, Nat.reduceEqDiff, Nat.reduceLT, ↓reduceIte, hl, e0, e16, e17, e18, e25]), (by simp only [W0, Nat.reduceEqDiff, Nat.reduceLT, ↓reduceIte, hl, e0, e16, e17, e18, e25]), (by simp only [W0, Nat.reduceEqDiff, Nat.reduceLT, ↓reduceIte, hl, e0, e16, e17, e18, e25]), (by simp only [W0, Nat.reduceEqDiff, Nat.reduceLT, ↓reduceIte, hl, e0, e16, e17, e18, e25])⟩) ?_
            rintro envg80 _ ⟨rfl, hl, e0, e16, e17, e18⟩
            try simp only [↓WD, W0, evalOp, Nat.reduceEqDiff, Nat.reduceLT, ↓reduceIte, reduceCtorEq, hl, e0, e16, e17, e18]
            obtain rfl := Option.some.inj wr81
            rw [KP_nil, QL_normal]
            exact ⟨_, rfl, (by simp only [List.length_set, hl]), (by simp only [W0, Nat.reduceEqDiff, Nat.reduceLT, ↓reduceIte, hl, e0, e16, e17, e18]), (by simp only [W0, Nat.reduceEqDiff, Nat.reduceLT, ↓reduceIte, hl, e0, e16, e17, e18]), (by simp only [W0, Nat.reduceEqDiff, Nat.reduceLT, ↓reduceIte, hl, e0, e16, e17, e18]), (by simp only [W0, Nat.reduceEqDiff, Nat.reduceLT, ↓reduceIte, hl, e0, e16, e17, e18]), S71.pick [] (by decide) rfl⟩
        · rw [if_neg c55] at wr81
          try simp only [↓WD, W0, evalOp, Nat.reduceEqDiff, Nat.reduceLT, ↓reduceIte, reduceCtorEq, hl, e0, e16, e17, e18, e19]
          obtain rfl := Option.some.inj wr81
          rw [KP_nil, QL_exit]
          exact ⟨_, rfl, .inl ⟨_, rfl, rfl, (by simp only [List.length_set, hl]), (by simp only [W0, Nat.reduceEqDiff, Nat.reduceLT, ↓reduceIte, hl, e0, e16, e17, e18, e19]), S52⟩⟩
      · exact ⟨(by simp only [List.length_set, hl]), (by simp only [W0, Nat.reduceEqDiff, Nat.reduceLT, ↓reduceIte, hl, e0, e16, e17, e18]), (by simp only [W0, Nat.reduceEqDiff, Nat.reduceLT, ↓reduceIte, hl, e0, e16, e17, e18]), (by simp only [W0, Nat.reduceEqDiff, Nat.reduceLT, ↓reduceIte, hl, e0, e16, e17, e18]), (by simp only [W0, Nat.reduceEqDiff, Nat.reduceLT, ↓reduceIte, hl, e0, e16, e17, e18]), S7⟩
      · intro x envr81 h83 hk
        rcases hk with ⟨t82, rfl, rfl, hl, e0, S84⟩ | ⟨t85, rfl, rfl, hl, e2, S87⟩
        · skip
          rw [sumK_inl] at hF
          try simp only [↓WD, W0, evalOp, Nat.reduceEqDiff, Nat.reduceLT, ↓reduceIte, reduceCtorEq, hl, e0]
          rw [AW_region]
          obtain ⟨y88, qy88, hF⟩ := obind hF
          obtain ⟨v92, h90, og89, rfl, S91⟩ := (W_extra_Put k13 k77 n50 n51 n52 n69 n26 m (by omega) h83 ul l (S84.ro hul) qy88).out
          have S93 : Sep h [] h90 [] := S84.call0 S91
          refine AE_joinR (fun e h' => h90 = h' ∧ e.length = 59 ∧ e.getD 0 .undef = ul ∧ e.getD 5 .undef = .str y88.1 ∧ e.getD 6 .undef = .int .i64 y88.2) (by
            simp only [↓WE, WA, WL, aop, ofValue, ofCell, isConst, abin, acall1, abuiltin, aun, AV.cells, AV.one, Nat.reduceAdd, Int.reduceLT, Int.reduceLE, ↓WD, W0, evalOp, Nat.reduceEqDiff, Nat.reduceLT, ↓reduceIte, reduceCtorEq, hl, e0, og89]
            exact ⟨rfl, (by simp only [List.length_set, hl]), (by simp only [W0, Nat.reduceEqDiff, Nat.reduceLT, ↓reduceIte, hl, e0]), (by simp only [W0, Nat.reduceEqDiff, Nat.reduceLT, ↓reduceIte, hl, e0]), (by simp only [W0, Nat.reduceEqDiff, Nat.reduceLT, ↓reduceIte, hl, e0])⟩) ?_
          rintro envg94 _ ⟨rfl, hl, e0, e5, e6⟩
          try simp only [↓WD, W0, evalOp, Nat.reduceEqDiff, Nat.reduceLT, ↓reduceIte, reduceCtorEq, hl, e0, e5, e6]
          rw [AW_region]
          obtain ⟨y95, qy95, hF⟩ := obind hF
          obtain ⟨v99, h97, og96, rfl, S98⟩ := (W_ref17_Put k19 n27 m (by omega) h90 ul l (S93.ro hul) qy95).out
          have S100 : Sep h [] h97 [] := S93.call0 S98
          refine AE_joinR (fun e h' => h97 = h' ∧ e.length = 59 ∧ e.getD 0 .undef = ul ∧ e.getD 5 .undef = .str y88.1 ∧ e.getD 6 .undef = .int .i64 y88.2 ∧ e.getD 7 .undef = .str y95.1 ∧ e.getD 8 .undef = .int .i64 y95.2) (by
            simp only [↓WE, WA, WL, aop, ofValue, ofCell, isConst, abin, acall1, abuiltin, aun, AV.cells, AV.one, Nat.reduceAdd, Int.reduceLT, Int.reduceLE, ↓WD, W0, evalOp, Nat.reduceEqDiff, Nat.reduceLT, ↓reduceIte, reduceCtorEq, hl, e0, e5, e6, og96]
            exact ⟨rfl, (by simp only [List.length_set, hl]), (by simp only [W0, Nat.reduceEqDiff, Nat.reduceLT, ↓reduceIte, hl, e0, e5, e6]), (by simp only [W0, Nat.reduceEqDiff, Nat.reduceLT, ↓reduceIte, hl, e0, e5, e6]), (by simp only [W0, Nat.reduceEqDiff, Nat.reduceLT, ↓reduceIte, hl, e0, e5, e6]), (by simp only [W0, Nat.reduceEqDiff, Nat.reduceLT, ↓reduceIte, hl, e0, e5, e6]), (by simp only [W0, Nat.reduceEqDiff, Nat.reduceLT, ↓reduceIte, hl, e0, e5, e6])⟩) ?_
          rintro envg101 _ ⟨rfl, hl, e0, e5, e6, e7, e8⟩
          try simp only [↓WD, W0, evalOp, Nat.reduceEqDiff, Nat.reduceLT, ↓reduceIte, reduceCtorEq, hl, e0, e5, e6, e7, e8]
          rw [AW_region]
          obtain ⟨j105, qj105, hF⟩ := obind hF
          refine AE_joinR (fun e h' => e.length = 59 ∧ e.getD 0 .undef = ul ∧ e.getD 5 .undef = .str y88.1 ∧ e.getD 8 .undef = .int .i64 y95.2 ∧ e.getD 44 .undef = .bool j105 ∧ Sep h [] h' []) ?_ ?_
          · simp only [↓WE, WA, WL, aop, ofValue, ofCell, isConst, abin, acall1, abuiltin, aun, AV.cells, AV.one, Nat.reduceAdd, Int.reduceLT, Int.reduceLE, ↓WD, W0, evalOp, Nat.reduceEqDiff, Nat.reduceLT, ↓reduceIte, reduceCtorEq, hl, e0, e5, e6, e7, e8]
            refine GuardW_boo (fun c102 => ?_) (fun c102 => ?_)
            · rw [if_pos c102] at qj105
              have d103 := c102
              simp only [↓WE, WA, WL, aop, ofValue, ofCell, isConst, abin, acall1, abuiltin, aun, AV.cells, AV.one, Nat.reduceAdd, Int.reduceLT, Int.reduceLE, ↓WD, W0, evalOp, Nat.reduceEqDiff, Nat.reduceLT, ↓reduceIte, reduceCtorEq, hl, e0, e5, e6, e7, e8, d103]
              obtain rfl := Option.some.inj qj105
              exact ⟨(by simp only [List.length_set, hl]), (by simp only [W0, Nat.reduceEqDiff, Nat.reduceLT, ↓reduceIte, hl, e0, e5, e6, e7, e8]), (by simp only [W0, Nat.reduceEqDiff, Nat.reduceLT, ↓reduceIte, hl, e0, e5, e6, e7, e8]), (by simp only [W0, Nat.reduceEqDiff, Nat.reduceLT, ↓reduceIte, hl, e0, e5, e6, e7, e8]), (by simp only [W0, Nat.reduceEqDiff, Nat.reduceLT, ↓reduceIte, hl, e0, e5, e6, e7, e8]), S100⟩
            · rw [if_neg (nf c102)] at qj105
              have d104 := c102
              simp only [↓WE, WA, WL, aop, ofValue, ofCell, isConst, abin, acall1, abuiltin, aun, AV.cells, AV.one, Nat.reduceAdd, Int.reduceLT, Int.reduceLE, ↓WD, W0, evalOp, Nat.reduceEqDiff, Nat.reduceLT, ↓reduceIte, reduceCtorEq, hl, e0, e5, e6, e7, e8, d104]
              obtain rfl := Option.some.inj qj105
              exact ⟨(by simp only [List.length_set, hl]), (by simp only [W0, Nat.reduceEqDiff, Nat.reduceLT, ↓reduceIte, hl, e0, e5, e6, e7, e8]), (by simp only [W0, Nat.reduceEqDiff, Nat.reduceLT, ↓reduceIte, hl, e0, e5, e6, e7, e8]), (by simp only [W0, Nat.reduceEqDiff, Nat.reduceLT, ↓reduceIte, hl, e0, e5, e6, e7, e8]), (by simp only [W0, Nat.reduceEqDiff, Nat.reduceLT, ↓reduceIte, hl, e0, e5, e6, e7, e8]), S100⟩
          · rintro envj105 h107 ⟨hl, e0, e5, e8, e44, S106⟩
            try simp only [↓WD, W0, evalOp, Nat.reduceEqDiff, Nat.reduceLT, ↓reduceIte, reduceCtorEq, hl, e0, e5, e8, e44]
            refine CondK_boo (fun c110 => ?_) (fun c110 => ?_)
            · rw [if_pos c110] at hF
              try simp only [↓WD, W0, evalOp, Nat.reduceEqDiff, Nat.reduceLT, ↓reduceIte, reduceCtorEq, hl, e0, e5, e8, e44]
              rw [AW_region]
              refine AE_joinR (fun e h' => h107 = h' ∧ e.length = 59 ∧ e.getD 2 .undef = .bool false) (by
                simp only [↓WE, WA, WL, aop, ofValue, ofCell, isConst, abin, acall1, abuiltin, aun, AV.cells, AV.one, Nat.reduceAdd, Int.reduceLT, Int.reduceLE, ↓WD, W0, evalOp, Nat.reduceEqDiff, Nat.reduceLT, ↓reduceIte, reduceCtorEq, hl, e0, e5, e8, e44]
                exact ⟨rfl, (by simp only [List.length_set, hl]), (by simp only [W0, Nat.reduceEqDiff, Nat.reduceLT, ↓reduceIte, hl, e0, e5, e8, e44])⟩) ?_
              rintro envg111 _ ⟨rfl, hl, e2⟩
              try simp only [↓WD, W0, evalOp, Nat.reduceEqDiff, Nat.reduceLT, ↓reduceIte, reduceCtorEq, hl, e2]
              refine KP_ret (vs := [.bool false]) (by simp only [aresults, aresult, gs, List.length_set, Nat.reduceEqDiff, Nat.reduceLT, ↓reduceIte, hl, e2]) ?_
              obtain rfl := Option.some.inj hF
              exact ⟨rfl, S106⟩
            · rw [if_neg (nf c110)] at hF
              try simp only [↓WD, W0, evalOp, Nat.reduceEqDiff, Nat.reduceLT, ↓reduceIte, reduceCtorEq, hl, e0, e5, e8, e44]
              rw [AW_region]
              refine AE_joinR (fun e h' => h107 = h' ∧ e.length = 59 ∧ e.getD 0 .undef = ul ∧ e.getD 5 .undef = .str y88.1 ∧ e.getD 46 .undef = .bool (y95.2 != 0)) (by
                simp only [↓WE, WA, WL, aop, ofValue, ofCell, isConst, abin, acall1, abuiltin, aun, AV.cells, AV.one, Nat.reduceAdd, Int.reduceLT, Int.reduceLE, ↓WD, W0, evalOp, Nat.reduceEqDiff, Nat.reduceLT, ↓reduceIte, reduceCtorEq, hl, e0, e5, e8, e44]
                exact ⟨rfl, (by simp only [List.length_set, hl]), (by simp only [W0, Nat.reduceEqDiff, Nat.reduceLT, ↓reduceIte, hl, e0, e5, e8, e44]), (by simp only [W0, Nat.reduceEqDiff, Nat.reduceLT, ↓reduceIte, hl, e0, e5, e8, e44]), (by simp only [W0, Nat.reduceEqDiff, Nat.reduceLT, ↓reduceIte, hl, e0, e5, e8, e44])⟩) ?_
              rintro envg112 _ ⟨rfl, hl, e0, e5, e46⟩
              try simp only [↓WD, W0, evalOp, Nat.reduceEqDiff, Nat.reduceLT, ↓reduceIte, reduceCtorEq, hl, e0, e5, e46]
              refine CondK_boo (fun c115 => ?_) (fun c115 => ?_)
              · rw [if_pos c115] at hF
                try simp only [↓WD, W0, evalOp, Nat.reduceEqDiff, Nat.reduceLT, ↓reduceIte, reduceCtorEq, hl, e0, e5, e46]
                rw [AW_region]
                refine AE_joinR (fun e h' => h107 = h' ∧ e.length = 59 ∧ e.getD 2 .undef = .bool true) (by
                  simp only [↓WE, WA, WL, aop, ofValue, ofCell, isConst, abin, acall1, abuiltin, aun, AV.cells, AV.one, Nat.reduceAdd, Int.reduceLT, Int.reduceLE, ↓WD, W0, evalOp, Nat.reduceEqDiff, Nat.reduceLT, ↓reduceIte, reduceCtorEq, hl, e0, e5, e46]
                  exact ⟨rfl, (by simp only [List.length_set, hl]), (by simp only [W0, Nat.reduceEqDiff, Nat.reduceLT, ↓reduceIte, hl, e0, e5, e46])⟩) ?_
                rintro envg116 _ ⟨rfl, hl, e2⟩
                try simp only [↓WD, W0, evalOp, Nat.reduceEqDiff, Nat.reduceLT, ↓reduceIte, reduceCtorEq, hl, e2]
                refine KP_ret (vs := [.bool true]) (by simp only [aresults, aresult, gs, List.length_set, Nat.reduceEqDiff, Nat.reduceLT, ↓reduceIte, hl, e2]) ?_
                obtain rfl := Option.some.inj hF
                exact ⟨rfl, S106⟩
              · rw [if_neg (nf c115)] at hF
                try simp only [↓WD, W0, evalOp, Nat.reduceEqDiff, Nat.reduceLT, ↓reduceIte, reduceCtorEq, hl, e0, e5, e46]
                rw [AW_region]
                obtain ⟨y117, qy117, hF⟩ := obind hF
                obtain ⟨v122, h119, og118, u121, rfl, S120⟩ := (W_extra_Parse k16 k47 n21 m (by omega) h107 y88.1 qy117).out
                have S124 : Sep h [] h119 [.row u121 47 2 (y117.1.map Gapi_Extra.cells)] := S106.call0 S120
                refine AE_joinR (fun e h' => h119 = h' ∧ e.length = 59 ∧ e.getD 0 .undef = ul ∧ e.getD 9 .undef = u121 ∧ e.getD 10 .undef = .int .i64 y117.2) (by
                  simp only [↓WE, WA, WL, aop, ofValue, ofCell, isConst, abin, acall1, abuiltin, aun, AV.cells, AV.one, Nat.reduceAdd, Int.reduceLT, Int.reduceLE, ↓WD, W0, evalOp, Nat.reduceEqDiff, Nat.reduceLT, ↓reduceIte, reduceCtorEq, hl, e0, e5, e46, og118]
                  exact ⟨rfl, (by simp only [List.length_set, hl]), (by simp only [W0, Nat.reduceEqDiff, Nat.reduceLT, ↓reduceIte, hl, e0, e5, e46]), (by simp only [W0, Nat.reduceEqDiff, Nat.reduceLT, ↓reduceIte, hl, e0, e5, e46]), (by simp only [W0, Nat.reduceEqDiff, Nat.reduceLT, ↓reduceIte, hl, e0, e5, e46])⟩) ?_
                rintro envg125 _ ⟨rfl, hl, e0, e9, e10⟩
                try simp only [↓WD, W0, evalOp, Nat.reduceEqDiff, Nat.reduceLT, ↓reduceIte, reduceCtorEq, hl, e0, e9, e10]
                rw [AW_region]
                obtain ⟨j135, qj135, hF⟩ := obind hF
                refine AE_joinR (fun e h' => e.length = 59 ∧ e.getD 2 .undef = .bool j135 ∧ Sep h [] h' []) ?_ ?_
                · simp only [↓WE, WA, WL, aop, ofValue, ofCell, isConst, abin, acall1, abuiltin, aun, AV.cells, AV.one, Nat.reduceAdd, Int.reduceLT, Int.reduceLE, ↓WD, W0, evalOp, Nat.reduceEqDiff, Nat.reduceLT, ↓reduceIte, reduceCtorEq, hl, e0, e9, e10]
                  refine GuardW_boo (fun c126 => ?_) (fun c126 => ?_)
                  · rw [if_pos c126] at qj135
                    have d127 := c126
                    obtain ⟨y129, qy129, qj135⟩ := obind qj135
                    obtain ⟨v133, h131, og130, rfl, S132⟩ := (W_law17_same n23 m (by omega) h119 u121 y117.1 (S124.row_ro (i := 0) rfl) ul l (S124.ro hul) qy129).out
                    have S134 : Sep h [] h131 [.row u121 47 2 (y117.1.map Gapi_Extra.cells)] := S124.call0 S132
                    simp only [↓WE, WA, WL, aop, ofValue, ofCell, isConst, abin, acall1, abuiltin, aun, AV.cells, AV.one, Nat.reduceAdd, Int.reduceLT, Int.reduceLE, ↓WD, W0, evalOp, Nat.reduceEqDiff, Nat.reduceLT, ↓reduceIte, reduceCtorEq, hl, e0, e9, e10, og130, d127]
                    obtain rfl := Option.some.inj qj135
                    exact ⟨(by simp only [List.length_set, hl]), (by simp only [W0, Nat.reduceEqDiff, Nat.reduceLT, ↓reduceIte, hl, e0, e9, e10]), S134.pick [] (by decide) rfl⟩
                  · rw [if_neg (nf c126)] at qj135
                    have d128 := c126
                    simp only [↓WE, WA, WL, aop, ofValue, ofCell, isConst, abin, acall1, abuiltin, aun, AV.cells, AV.one, Nat.reduceAdd, Int.reduceLT, Int.reduceLE, ↓WD, W0, evalOp, Nat.reduceEqDiff, Nat.reduceLT, ↓reduceIte, reduceCtorEq, hl, e0, e9, e10, d128]
                    obtain rfl := Option.some.inj qj135
                    exact ⟨(by simp only [List.length_set, hl]), (by simp only [W0, Nat.reduceEqDiff, Nat.reduceLT, ↓reduceIte, hl, e0, e9, e10]), S124.pick [] (by decide) rfl⟩
                · rintro envj135 h137 ⟨hl, e2, S136⟩
                  try simp only [↓WD, W0, evalOp, Nat.reduceEqDiff, Nat.reduceLT, ↓reduceIte, reduceCtorEq, hl, e2]
                  refine KP_ret (vs := [.bool j135]) (by simp only [aresults, aresult, gs, List.length_set, Nat.reduceEqDiff, Nat.reduceLT, ↓reduceIte, hl, e2]) ?_
                  obtain rfl := Option.some.inj hF
                  exact ⟨rfl, S136⟩
        · skip
          rw [sumK_inr] at hF
          try simp only [↓WD, W0, evalOp, Nat.reduceEqDiff, Nat.reduceLT, ↓reduceIte, reduceCtorEq, hl, e2]
          refine KP_ret (vs := [.bool true]) (by simp only [aresults, aresult, gs, List.length_set, Nat.reduceEqDiff, Nat.reduceLT, ↓reduceIte, hl, e2]) ?_
          obtain rfl := Option.some.inj hF
          exact ⟨rfl, S87⟩
set_option maxRecDepth 100000 in
set_option maxHeartbeats 4000000 in
theorem W_ref17_Find {K : PureK} (n25 : K 25 = none) (m : Nat) (hm : NF + 1 ≤ m) (h : AH) (ul : AV) (l : List Gapi_Extra) (hul : RO 2 ul h (l.map Gapi_Extra.cells)) (id_ : Int) {r : (List UInt8) × Bool} (hF : F_ref17_Find l id_ = some r) :
    AR (acall Try.prog (hooksOf K) (drawnOf Try.prog (tabOf K)) m 25 [ul, .int .i64 id_] h) (fun v h' => v = .tup [.str r.1, .bool r.2] ∧ Sep h [] h' []) := by
  obtain ⟨m, rfl⟩ : ∃ k, m = k + 1 := ⟨m - 1, by omega⟩
  refine AR_call (hooksOf_none n25) Try.func25 rfl _ _ fun env hl he => ?_
  have e0 := he 0
  have e1 := he 1
  simp only [List.getD_cons_zero, List.getD_cons_succ] at e0 e1
  simp only [Try.f25] at hl ⊢
  simp only [List.length_cons, List.length_nil, Nat.reduceAdd, Nat.reduceSub] at hl
  clear he
  have S0 : Sep h [] h [] := Sep.nil h
  rw [F_ref17_Find] at hF
  try simp only [↓WD, W0, evalOp, Nat.reduceEqDiff, Nat.reduceLT, ↓reduceIte, reduceCtorEq, hl, e0, e1]
  rw [AW_region]
  refine AE_joinR (fun e h' => h = h' ∧ e.length = 25 ∧ e.getD 0 .undef = ul ∧ e.getD 1 .undef = .int .i64 id_) (by
    simp only [↓WE, WA, WL, aop, ofValue, ofCell, isConst, abin, acall1, abuiltin, aun, AV.cells, AV.one, Nat.reduceAdd, Int.reduceLT, Int.reduceLE, ↓WD, W0, evalOp, Nat.reduceEqDiff, Nat.reduceLT, ↓reduceIte, reduceCtorEq, hl, e0, e1]
    exact ⟨rfl, (by simp only [List.length_set, hl]), (by simp only [W0, Nat.reduceEqDiff, Nat.reduceLT, ↓reduceIte, hl, e0, e1]), (by simp only [W0, Nat.reduceEqDiff, Nat.reduceLT, ↓reduceIte, hl, e0, e1])⟩) ?_
  rintro envg1 _ ⟨rfl, hl, e0, e1⟩
  try simp only [↓WD, W0, evalOp, Nat.reduceEqDiff, Nat.reduceLT, ↓reduceIte, reduceCtorEq, hl, e0, e1]
  rw [AW_region]
  refine AE_joinR (fun e h' => h = h' ∧ e.length = 25 ∧ e.getD 0 .undef = ul ∧ e.getD 1 .undef = .int .i64 id_ ∧ e.getD 6 .undef = .int .i64 0) (by
    simp only [↓WE, WA, WL, aop, ofValue, ofCell, isConst, abin, acall1, abuiltin, aun, AV.cells, AV.one, Nat.reduceAdd, Int.reduceLT, Int.reduceLE, ↓WD, W0, evalOp, Nat.reduceEqDiff, Nat.reduceLT, ↓reduceIte, reduceCtorEq, hl, e0, e1]
    exact ⟨rfl, (by simp only [List.length_set, hl]), (by simp only [W0, Nat.reduceEqDiff, Nat.reduceLT, ↓reduceIte, hl, e0, e1]), (by simp only [W0, Nat.reduceEqDiff, Nat.reduceLT, ↓reduceIte, hl, e0, e1]), (by simp only [W0, Nat.reduceEqDiff, Nat.reduceLT, ↓reduceIte, hl, e0, e1])⟩) ?_
  rintro envg2 _ ⟨rfl, hl, e0, e1, e6⟩
  try simp only [↓WD, W0, evalOp, Nat.reduceEqDiff, Nat.reduceLT, ↓reduceIte, reduceCtorEq, hl, e0, e1, e6]
  obtain ⟨r63, qr63, hF⟩ := obind hF
  refine AW_lift (L_ref17_Find_1 l id_) (fun s e h' => e.length = 25 ∧ e.getD 0 .undef = ul ∧ e.getD 1 .undef = .int .i64 id_ ∧ e.getD 6 .undef = .int .i64 s ∧ Sep h [] h' []) (fun r63 x e h' => (∃ (t64 : Unit), r63 = (.inl t64) ∧ x = .exit 0 ∧ e.length = 25 ∧ Sep h [] h' []) ∨ (∃ (t67 : (List UInt8)), r63 = (.inr t67) ∧ x = .ret ∧ e.length = 25 ∧ e.getD 4 .undef = .str t67 ∧ e.getD 5 .undef = .bool true ∧ Sep h [] h' [])) qr63 (by omega) ?_ ?_ ?_
  · rintro s envr63 h33 or63 ⟨hl, e0, e1, e6, S34⟩ wr63
    rw [L_ref17_Find_1] at wr63
    try simp only [↓WD, W0, evalOp, Nat.reduceEqDiff, Nat.reduceLT, ↓reduceIte, reduceCtorEq, hl, e0, e1, e6]
    rw [AW_region]
    have ol35 := RO.len (P := Try.prog) sl_35 (S34.ro hul)
    rw [List.length_map] at ol35
    refine AE_joinR (fun e h' => h33 = h' ∧ e.length = 25 ∧ e.getD 0 .undef = ul ∧ e.getD 1 .undef = .int .i64 id_ ∧ e.getD 6 .undef = .int .i64 s ∧ e.getD 10 .undef = .bool (decide (s < (l.length : Int)))) (by
      simp only [↓WE, WA, WL, aop, ofValue, ofCell, isConst, abin, acall1, abuiltin, aun, AV.cells, AV.one, Nat.reduceAdd, Int.reduceLT, Int.reduceLE, ↓WD, W0, evalOp, Nat.reduceEqDiff, Nat.reduceLT, ↓reduceIte, reduceCtorEq, hl, e0, e1, e6, ol35]
      exact ⟨rfl, (by simp only [List.length_set, hl]), (by simp only [W0, Nat.reduceEqDiff, Nat.reduceLT, ↓reduceIte, hl, e0, e1, e6]), (by simp only [W0, Nat.reduceEqDiff, Nat.reduceLT, ↓reduceIte, hl, e0, e1, e6]), (by simp only [W0, Nat.reduceEqDiff, Nat.reduceLT, ↓reduceIte, hl, e0, e1, e6]), (by simp only [W0, Nat.reduceEqDiff, Nat.reduceLT, ↓reduceIte, hl, e0, e1, e6])⟩) ?_
    rintro envg36 _ ⟨rfl, hl, e0, e1, e6, e10⟩
    try simp only [↓WD, W0, evalOp, Nat.reduceEqDiff, Nat.reduceLT, ↓reduceIte, reduceCtorEq, hl, e0, e1, e6, e10]
    refine CondK_dec (fun c38 => ?_) (fun c38 => ?_)
    · rw [if_pos c38] at wr63
      try simp only [↓WD, W0, evalOp, Nat.reduceEqDiff, Nat.reduceLT, ↓reduceIte, reduceCtorEq, hl, e0, e1, e6, e10]
      rw [AW_region]
      obtain ⟨x39, qx39, wr63⟩ := obind wr63
      obtain ⟨i40, off41, oi42, hp43⟩ := RO.addr (P := Try.prog) sl_35 (S34.ro hul) qx39
      have ol44 := RO.ld (P := Try.prog) (S34.ro hul) hp43 qx39 (t := 3) (o := 0) (v := .int .i64 x39.xID) (by omega) (by simp only [apart, ag_3, sz_3]; rfl)
      simp only [Nat.add_zero] at ol44
      refine AE_joinR (fun e h' => h33 = h' ∧ e.length = 25 ∧ e.getD 0 .undef = ul ∧ e.getD 1 .undef = .int .i64 id_ ∧ e.getD 6 .undef = .int .i64 s ∧ e.getD 19 .undef = .bool (x39.xID == id_)) (by
        simp only [↓WE, WA, WL, aop, ofValue, ofCell, isConst, abin, acall1, abuiltin, aun, AV.cells, AV.one, Nat.reduceAdd, Int.reduceLT, Int.reduceLE, ↓WD, W0, evalOp, Nat.reduceEqDiff, Nat.reduceLT, ↓reduceIte, reduceCtorEq, hl, e0, e1, e6, e10, oi42, fa_47_0, ol44]
        exact ⟨rfl, (by simp only [List.length_set, hl]), (by simp only [W0, Nat.reduceEqDiff, Nat.reduceLT, ↓reduceIte, hl, e0, e1, e6, e10]), (by simp only [W0, Nat.reduceEqDiff, Nat.reduceLT, ↓reduceIte, hl, e0, e1, e6, e10]), (by simp only [W0, Nat.reduceEqDiff, Nat.reduceLT, ↓reduceIte, hl, e0, e1, e6, e10]), (by simp only [W0, Nat.reduceEqDiff, Nat.reduceLT, ↓reduceIte, hl, e0, e1, e6, e10])⟩) ?_
      rintro envg45 _ ⟨rfl, hl, e0, e1, e6, e19⟩
      try simp only [↓WD, W0, evalOp, Nat.reduceEqDiff, Nat.reduceLT, ↓reduceIte, reduceCtorEq, hl, e0, e1, e6, e19]
      refine CondK_boo (fun c54 => ?_) (fun c54 => ?_)
      · rw [if_pos c54] at wr63
        try simp only [↓WD, W0, evalOp, Nat.reduceEqDiff, Nat.reduceLT, ↓reduceIte, reduceCtorEq, hl, e0, e1, e6, e19]
        rw [AW_region]
        have ol60 := RO.ld (P := Try.prog) (S34.ro hul) hp43 qx39 (t := 9) (o := 1) (v := .str x39.xData) (by omega) (by simp only [apart, ag_9, sz_9]; rfl)
        refine AE_joinR (fun e h' => h33 = h' ∧ e.length = 25 ∧ e.getD 4 .undef = .str x39.xData ∧ e.getD 5 .undef = .bool true) (by
          simp only [↓WE, WA, WL, aop, ofValue, ofCell, isConst, abin, acall1, abuiltin, aun, AV.cells, AV.one, Nat.reduceAdd, Int.reduceLT, Int.reduceLE, ↓WD, W0, evalOp, Nat.reduceEqDiff, Nat.reduceLT, ↓reduceIte, reduceCtorEq, hl, e0, e1, e6, e19, oi42, fa_47_1, ol60]
          exact ⟨rfl, (by simp only [List.length_set, hl]), (by simp only [W0, Nat.reduceEqDiff, Nat.reduceLT, ↓reduceIte, hl, e0, e1, e6, e19]), (by simp only [W0, Nat.reduceEqDiff, Nat.reduceLT, ↓reduceIte, hl, e0, e1, e6, e19])⟩) ?_
        rintro envg61 _ ⟨rfl, hl, e4, e5⟩
        try simp only [↓WD, W0, evalOp, Nat.reduceEqDiff, Nat.reduceLT, ↓reduceIte, reduceCtorEq, hl, e4, e5]
        obtain rfl := Option.some.inj wr63
        rw [KP_nil, QL_ret]
        exact ⟨_, rfl, .inr (⟨_, rfl, rfl, (by simp only [List.length_set, hl]), (by simp only [W0, Nat.reduceEqDiff, Nat.reduceLT, ↓reduceIte, hl, e4, e5]), (by simp only [W0, Nat.reduceEqDiff, Nat.reduceLT, ↓reduceIte, hl, e4, e5]), S34⟩)⟩
      · rw [if_neg (nf c54)] at wr63
        try simp only [↓WD, W0, evalOp, Nat.reduceEqDiff, Nat.reduceLT, ↓reduceIte, reduceCtorEq, hl, e0, e1, e6, e19]
        rw [AW_region]
        refine AE_joinR (fun e h' => h33 = h' ∧ e.length = 25 ∧ e.getD 0 .undef = ul ∧ e.getD 1 .undef = .int .i64 id_ ∧ e.getD 6 .undef = .int .i64 (IntKind.i64.wrap (s + 1))) (by
          simp only [↓WE, WA, WL, aop, ofValue, ofCell, isConst, abin, acall1, abuiltin, aun, AV.cells, AV.one, Nat.reduceAdd, Int.reduceLT, Int.reduceLE, ↓WD, W0, evalOp, Nat.reduceEqDiff, Nat.reduceLT, ↓reduceIte, reduceCtorEq, hl, e0, e1, e6, e19]
          exact ⟨rfl, (by simp only [List.length_set, hl]), (by simp only [W0, Nat.reduceEqDiff, Nat.reduceLT, ↓reduceIte, hl, e0, e1, e6, e19]), (by simp only [W0, Nat.reduceEqDiff, Nat.reduceLT, ↓reduceIte, hl, e0, e1, e6, e19]), (by simp only [W0, Nat.reduceEqDiff, Nat.reduceLT, ↓reduceIte, hl, e0, e1, e6, e19])⟩) ?_
        rintro envg62 _ ⟨rfl, hl, e0, e1, e6⟩
        try simp only [↓WD, W0, evalOp, Nat.reduceEqDiff, Nat.reduceLT, ↓reduceIte, reduceCtorEq, hl, e0, e1, e6]
        obtain rfl := Option.some.inj wr63
        rw [KP_nil, QL_normal]
        exact ⟨_, rfl, (by simp only [List.length_set, hl]), (by simp only [W0, Nat.reduceEqDiff, Nat.reduceLT, ↓reduceIte, hl, e0, e1, e6]), (by simp only [W0, Nat.reduceEqDiff, Nat.reduceLT, ↓reduceIte, hl, e0, e1, e6]), (by simp only [W0, Nat.reduceEqDiff, Nat.reduceLT, ↓reduceIte, hl, e0, e1, e6]), S34⟩
    · rw [if_neg c38] at wr63
      try simp only [↓WD, W0, evalOp, Nat.reduceEqDiff, Nat.reduceLT, ↓reduceIte, reduceCtorEq, hl, e0, e1, e6, e10]
      obtain rfl := Option.some.inj wr63
      rw [KP_nil, QL_exit]
      exact ⟨_, rfl, .inl ⟨_, rfl, rfl, (by simp only [List.length_set, hl]), S34⟩⟩
  · exact ⟨(by simp only [List.length_set, hl]), (by simp only [W0, Nat.reduceEqDiff, Nat.reduceLT, ↓reduceIte, hl, e0, e1, e6]), (by simp only [W0, Nat.reduceEqDiff, Nat.reduceLT, ↓reduceIte, hl, e0, e1, e6]), (by simp only [W0, Nat.reduceEqDiff, Nat.reduceLT, ↓reduceIte, hl, e0, e1, e6]), S0⟩
  · intro x envr63 h65 hk
    rcases hk with ⟨t64, rfl, rfl, hl, S66⟩ | ⟨t67, rfl, rfl, hl, e4, e5, S69⟩
    · skip
      rw [sumK_inl] at hF
      try simp only [↓WD, W0, evalOp, Nat.reduceEqDiff, Nat.reduceLT, ↓reduceIte, reduceCtorEq, hl]
      rw [AW_region]
      refine AE_joinR (fun e h' => h65 = h' ∧ e.length = 25 ∧ e.getD 4 .undef = .str [] ∧ e.getD 5 .undef = .bool false) (by
        simp only [↓WE, WA, WL, aop, ofValue, ofCell, isConst, abin, acall1, abuiltin, aun, AV.cells, AV.one, Nat.reduceAdd, Int.reduceLT, Int.reduceLE, ↓WD, W0, evalOp, Nat.reduceEqDiff, Nat.reduceLT, ↓reduceIte, reduceCtorEq, hl]
        exact ⟨rfl, (by simp only [List.length_set, hl]), (by simp only [W0, Nat.reduceEqDiff, Nat.reduceLT, ↓reduceIte, hl]), (by simp only [W0, Nat.reduceEqDiff, Nat.reduceLT, ↓reduceIte, hl])⟩) ?_
      rintro envg70 _ ⟨rfl, hl, e4, e5⟩
      try simp only [↓WD, W0, evalOp, Nat.reduceEqDiff, Nat.reduceLT, ↓reduceIte, reduceCtorEq, hl, e4, e5]
      refine KP_ret (vs := [.str [], .bool false]) (by simp only [aresults, aresult, gs, List.length_set, Nat.reduceEqDiff, Nat.reduceLT, ↓reduceIte, hl, e4, e5]) ?_
      obtain rfl := Option.some.inj hF
      exact ⟨rfl, S66⟩
    · skip
      rw [sumK_inr] at hF
      try simp only [↓WD, W0, evalOp, Nat.reduceEqDiff, Nat.reduceLT, ↓reduceIte, reduceCtorEq, hl, e4, e5]
      refine KP_ret (vs := [.str t67, .bool true]) (by simp only [aresults, aresult, gs, List.length_set, Nat.reduceEqDiff, Nat.reduceLT, ↓reduceIte, hl, e4, e5]) ?_
      obtain rfl := Option.some.inj hF
      exact ⟨rfl, S69⟩
set_option maxRecDepth 100000 in
set_option maxHeartbeats 4000000 in
theorem W_ref17_Resolve {K : PureK} (k53 : K 53 = some kf_53) (n25 : K 25 = none) (n29 : K 29 = none) (m : Nat) (hm : NF + 2 ≤ m) (h : AH) (ul : AV) (l : List Gapi_Extra) (hul : RO 2 ul h (l.map Gapi_Extra.cells)) (n_0 n_1 n_2 : Int) {r : (List Int) × Int} (hF : F_ref17_Resolve l [n_0, n_1, n_2] = some r) :
    AR (acall Try.prog (hooksOf K) (drawnOf Try.prog (tabOf K)) m 29 [ul, .agg [.int .i64 n_0, .int .i64 n_1, .int .i64 n_2]] h) (fun v h' => v = .tup [.agg (r.1.map (AV.int .i64)), .int .i64 r.2] ∧ Sep h [] h' []) := by
  obtain ⟨m, rfl⟩ : ∃ k, m = k + 1 := ⟨m - 1, by omega⟩
  refine AR_call (hooksOf_none n29) Try.func29 rfl _ _ fun env hl he => ?_
  have e0 := he 0
  have e1 := he 1
  simp only [List.getD_cons_zero, List.getD_cons_succ] at e0 e1
  simp only [Try.f29] at hl ⊢
  simp only [List.length_cons, List.length_nil, Nat.reduceAdd, Nat.reduceSub] at hl
  clear he
  have S0 : Sep h [] h [] := Sep.nil h
  rw [F_ref17_Resolve] at hF
  try simp only [↓WD, W0, evalOp, Nat.reduceEqDiff, Nat.reduceLT, ↓reduceIte, reduceCtorEq, hl, e0, e1]
  rw [AW_region]
  obtain ⟨i1, h2, oa3, S4⟩ := S0.alloc 53 [.int .i64 n_0, .int .i64 n_1, .int .i64 n_2]
  have S6 : Sep h [] h2 [.blk i1 ([n_0, n_1, n_2].map (AV.int .i64)) 53] := S4
  obtain ⟨i7, h8, oa9, S10⟩ := S6.alloc 53 [.int .i64 0, .int .i64 0, .int .i64 0]
  have S12 : Sep h [] h8 [.blk i1 ([n_0, n_1, n_2].map (AV.int .i64)) 53, .blk i7 ([0, 0, 0].map (AV.int .i64)) 53] := S10
  refine AE_joinR (fun e h' => h8 = h' ∧ e.length = 49 ∧ e.getD 0 .undef = ul ∧ e.getD 3 .undef = .ptr i1 0 ∧ e.getD 4 .undef = .ptr i7 0) (by
    simp only [↓WE, WA, WL, aop, ofValue, ofCell, isConst, abin, acall1, abuiltin, aun, AV.cells, AV.one, Nat.reduceAdd, Int.reduceLT, Int.reduceLE, ↓WD, W0, evalOp, Nat.reduceEqDiff, Nat.reduceLT, ↓reduceIte, reduceCtorEq, hl, e0, e1, oa3, zero_53, oa9]
    exact ⟨rfl, (by simp only [List.length_set, hl]), (by simp only [W0, Nat.reduceEqDiff, Nat.reduceLT, ↓reduceIte, hl, e0, e1]), (by simp only [W0, Nat.reduceEqDiff, Nat.reduceLT, ↓reduceIte, hl, e0, e1]), (by simp only [W0, Nat.reduceEqDiff, Nat.reduceLT, ↓reduceIte, hl, e0, e1])⟩) ?_
  rintro envg13 _ ⟨rfl, hl, e0, e3, e4⟩
  try simp only [↓WD, W0, evalOp, Nat.reduceEqDiff, Nat.reduceLT, ↓reduceIte, reduceCtorEq, hl, e0, e3, e4]
  rw [AW_region]
  obtain ⟨y14, qy14, hF⟩ := obind hF
  obtain ⟨v18, h16, og15, rfl, S17⟩ := (W_ref17_Find n25 m (by omega) h8 ul l (S12.ro hul) 1 qy14).out
  have S19 : Sep h [] h16 [.blk i1 ([n_0, n_1, n_2].map (AV.int .i64)) 53, .blk i7 ([0, 0, 0].map (AV.int .i64)) 53] := S12.call0 S17
  refine AE_joinR (fun e h' => h16 = h' ∧ e.length = 49 ∧ e.getD 3 .undef = .ptr i1 0 ∧ e.getD 4 .undef = .ptr i7 0 ∧ e.getD 6 .undef = .str y14.1) (by
    simp only [↓WE, WA, WL, aop, ofValue, ofCell, isConst, abin, acall1, abuiltin, aun, AV.cells, AV.one, Nat.reduceAdd, Int.reduceLT, Int.reduceLE, ↓WD, W0, evalOp, Nat.reduceEqDiff, Nat.reduceLT, ↓reduceIte, reduceCtorEq, hl, e0, e3, e4, og15]
    exact ⟨rfl, (by simp only [List.length_set, hl]), (by simp only [W0, Nat.reduceEqDiff, Nat.reduceLT, ↓reduceIte, hl, e0, e3, e4]), (by simp only [W0, Nat.reduceEqDiff, Nat.reduceLT, ↓reduceIte, hl, e0, e3, e4]), (by simp only [W0, Nat.reduceEqDiff, Nat.reduceLT, ↓reduceIte, hl, e0, e3, e4])⟩) ?_
  rintro envg20 _ ⟨rfl, hl, e3, e4, e6⟩
  try simp only [↓WD, W0, evalOp, Nat.reduceEqDiff, Nat.reduceLT, ↓reduceIte, reduceCtorEq, hl, e3, e4, e6]
  rw [AW_region]
  refine AE_joinR (fun e h' => h16 = h' ∧ e.length = 49 ∧ e.getD 3 .undef = .ptr i1 0 ∧ e.getD 4 .undef = .ptr i7 0 ∧ e.getD 6 .undef = .str y14.1 ∧ e.getD 8 .undef = .int .i64 0) (by
    simp only [↓WE, WA, WL, aop, ofValue, ofCell, isConst, abin, acall1, abuiltin, aun, AV.cells, AV.one, Nat.reduceAdd, Int.reduceLT, Int.reduceLE, ↓WD, W0, evalOp, Nat.reduceEqDiff, Nat.reduceLT, ↓reduceIte, reduceCtorEq, hl, e3, e4, e6]
    exact ⟨rfl, (by simp only [List.length_set, hl]), (by simp only [W0, Nat.reduceEqDiff, Nat.reduceLT, ↓reduceIte, hl, e3, e4, e6]), (by simp only [W0, Nat.reduceEqDiff, Nat.reduceLT, ↓reduceIte, hl, e3, e4, e6]), (by simp only [W0, Nat.reduceEqDiff, Nat.reduceLT, ↓reduceIte, hl, e3, e4, e6]), (by simp only [W0, Nat.reduceEqDiff, Nat.reduceLT, ↓reduceIte, hl, e3, e4, e6])⟩) ?_
  rintro envg21 _ ⟨rfl, hl, e3, e4, e6, e8⟩
  try simp only [↓WD, W0, evalOp, Nat.reduceEqDiff, Nat.reduceLT, ↓reduceIte, reduceCtorEq, hl, e3, e4, e6, e8]
  rw [AW_region]
  refine AE_joinR (fun e h' => h16 = h' ∧ e.length = 49 ∧ e.getD 3 .undef = .ptr i1 0 ∧ e.getD 4 .undef = .ptr i7 0 ∧ e.getD 6 .undef = .str y14.1 ∧ e.getD 8 .undef = .int .i64 0 ∧ e.getD 9 .undef = .bool false) (by
    simp only [↓WE, WA, WL, aop, ofValue, ofCell, isConst, abin, acall1, abuiltin, aun, AV.cells, AV.one, Nat.reduceAdd, Int.reduceLT, Int.reduceLE, ↓WD, W0, evalOp, Nat.reduceEqDiff, Nat.reduceLT, ↓reduceIte, reduceCtorEq, hl, e3, e4, e6, e8]
    exact ⟨rfl, (by simp only [List.length_set, hl]), (by simp only [W0, Nat.reduceEqDiff, Nat.reduceLT, ↓reduceIte, hl, e3, e4, e6, e8]), (by simp only [W0, Nat.reduceEqDiff, Nat.reduceLT, ↓reduceIte, hl, e3, e4, e6, e8]), (by simp only [W0, Nat.reduceEqDiff, Nat.reduceLT, ↓reduceIte, hl, e3, e4, e6, e8]), (by simp only [W0, Nat.reduceEqDiff, Nat.reduceLT, ↓reduceIte, hl, e3, e4, e6, e8]), (by simp only [W0, Nat.reduceEqDiff, Nat.reduceLT, ↓reduceIte, hl, e3, e4, e6, e8])⟩) ?_
  rintro envg22 _ ⟨rfl, hl, e3, e4, e6, e8, e9⟩
  try simp only [↓WD, W0, evalOp, Nat.reduceEqDiff, Nat.reduceLT, ↓reduceIte, reduceCtorEq, hl, e3, e4, e6, e8, e9]
  rw [AW_region]
  refine AE_joinR (fun e h' => h16 = h' ∧ e.length = 49 ∧ e.getD 3 .undef = .ptr i1 0 ∧ e.getD 4 .undef = .ptr i7 0 ∧ e.getD 6 .undef = .str y14.1 ∧ e.getD 8 .undef = .int .i64 0 ∧ e.getD 9 .undef = .bool false ∧ e.getD 10 .undef = .int .i64 0) (by
    simp only [↓WE, WA, WL, aop, ofValue, ofCell, isConst, abin, acall1, abuiltin, aun, AV.cells, AV.one, Nat.reduceAdd, Int.reduceLT, Int.reduceLE, ↓WD, W0, evalOp, Nat.reduceEqDiff, Nat.reduceLT, ↓reduceIte, reduceCtorEq, hl, e3, e4, e6, e8, e9]
    exact ⟨rfl, (by simp only [List.length_set, hl]), (by simp only [W0, Nat.reduceEqDiff, Nat.reduceLT, ↓reduceIte, hl, e3, e4, e6, e8, e9]), (by simp only [W0, Nat.reduceEqDiff, Nat.reduceLT, ↓reduceIte, hl, e3, e4, e6, e8, e9]), (by simp only [W0, Nat.reduceEqDiff, Nat.reduceLT, ↓reduceIte, hl, e3, e4, e6, e8, e9]), (by simp only [W0, Nat.reduceEqDiff, Nat.reduceLT, ↓reduceIte, hl, e3, e4, e6, e8, e9]), (by simp only [W0, Nat.reduceEqDiff, Nat.reduceLT, ↓reduceIte, hl, e3, e4, e6, e8, e9]), (by simp only [W0, Nat.reduceEqDiff, Nat.reduceLT, ↓reduceIte, hl, e3, e4, e6, e8, e9])⟩) ?_
  rintro envg23 _ ⟨rfl, hl, e3, e4, e6, e8, e9, e10⟩
  try simp only [↓WD, W0, evalOp, Nat.reduceEqDiff, Nat.reduceLT, ↓reduceIte, reduceCtorEq, hl, e3, e4, e6, e8, e9, e10]
  obtain ⟨r120, qr120, hF⟩ := obind hF
  refine AW_lift (L_ref17_Resolve_1 y14) (fun s e h' => e.length = 49 ∧ e.getD 3 .undef = .ptr i1 0 ∧ e.getD 4 .undef = .ptr i7 0 ∧ e.getD 6 .undef = .str y14.1 ∧ e.getD 8 .undef = .int .i64 s.2.1 ∧ e.getD 9 .undef = .bool s.2.2.1 ∧ e.getD 10 .undef = .int .i64 s.2.2.2 ∧ Sep h [] h' [.blk i1 (s.1.map (AV.int .i64)) 53, .blk i7 ([0, 0, 0].map (AV.int .i64)) 53]) (fun r120 x e h' => (∃ (t121 : (List Int) × Bool), r120 = (.inl t121) ∧ x = .exit 0 ∧ e.length = 49 ∧ e.getD 3 .undef = .ptr i1 0 ∧ e.getD 4 .undef = .ptr i7 0 ∧ e.getD 9 .undef = .bool t121.2 ∧ Sep h [] h' [.blk i1 (t121.1.map (AV.int .i64)) 53, .blk i7 ([0, 0, 0].map (AV.int .i64)) 53]) ∨ (∃ (t124 : Unit), r120 = (.inr t124) ∧ x = .ret ∧ e.length = 49 ∧ e.getD 4 .undef = .ptr i7 0 ∧ e.getD 5 .undef = .int .i64 2 ∧ Sep h [] h' [.blk i7 ([0, 0, 0].map (AV.int .i64)) 53])) qr120 (by omega) ?_ ?_ ?_
  · rintro s envr120 h69 or120 ⟨hl, e3, e4, e6, e8, e9, e10, S70⟩ wr120
    rw [L_ref17_Resolve_1] at wr120
    try simp only [↓WD, W0, evalOp, Nat.reduceEqDiff, Nat.reduceLT, ↓reduceIte, reduceCtorEq, hl, e3, e4, e6, e8, e9, e10]
    rw [AW_region]
    refine AE_joinR (fun e h' => h69 = h' ∧ e.length = 49 ∧ e.getD 3 .undef = .ptr i1 0 ∧ e.getD 4 .undef = .ptr i7 0 ∧ e.getD 6 .undef = .str y14.1 ∧ e.getD 8 .undef = .int .i64 s.2.1 ∧ e.getD 9 .undef = .bool s.2.2.1 ∧ e.getD 10 .undef = .int .i64 s.2.2.2 ∧ e.getD 19 .undef = .bool (decide (s.2.2.2 < 3))) (by
      simp only [↓WE, WA, WL, aop, ofValue, ofCell, isConst, abin, acall1, abuiltin, aun, AV.cells, AV.one, Nat.reduceAdd, Int.reduceLT, Int.reduceLE, ↓WD, W0, evalOp, Nat.reduceEqDiff, Nat.reduceLT, ↓reduceIte, reduceCtorEq, hl, e3, e4, e6, e8, e9, e10]
      exact ⟨rfl, (by simp only [List.length_set, hl]), (by simp only [W0, Nat.reduceEqDiff, Nat.reduceLT, ↓reduceIte, hl, e3, e4, e6, e8, e9, e10]), (by simp only [W0, Nat.reduceEqDiff, Nat.reduceLT, ↓reduceIte, hl, e3, e4, e6, e8, e9, e10]), (by simp only [W0, Nat.reduceEqDiff, Nat.reduceLT, ↓reduceIte, hl, e3, e4, e6, e8, e9, e10]), (by simp only [W0, Nat.reduceEqDiff, Nat.reduceLT, ↓reduceIte, hl, e3, e4, e6, e8, e9, e10]), (by simp only [W0, Nat.reduceEqDiff, Nat.reduceLT, ↓reduceIte, hl, e3, e4, e6, e8, e9, e10]), (by simp only [W0, Nat.reduceEqDiff, Nat.reduceLT, ↓reduceIte, hl, e3, e4, e6, e8, e9, e10]), (by simp only [W0, Nat.reduceEqDiff, Nat.reduceLT, ↓reduceIte, hl, e3, e4, e6, e8, e9, e10])⟩) ?_
    rintro envg71 _ ⟨rfl, hl, e3, e4, e6, e8, e9, e10, e19⟩
    try simp only [↓WD, W0, evalOp, Nat.reduceEqDiff, Nat.reduceLT, ↓reduceIte, reduceCtorEq, hl, e3, e4, e6, e8, e9, e10, e19]
    refine CondK_dec (fun c73 => ?_) (fun c73 => ?_)
    · rw [if_pos c73] at wr120
      try simp only [↓WD, W0, evalOp, Nat.reduceEqDiff, Nat.reduceLT, ↓reduceIte, reduceCtorEq, hl, e3, e4, e6, e8, e9, e10, e19]
      rw [AW_region]
      obtain ⟨_, q74, wr120⟩ := obind wr120
      have oi75 := ia_53 i1 0 .i64 (chkIdx_lo q74) (chkIdx_hi q74)
      obtain ⟨y77, qy77, wr120⟩ := obind wr120
      have ol76 := S70.load (P := Try.prog) 0 rfl (t := 3) (apart_idxA ag_3 qy77)
      refine AE_joinR (fun e h' => h69 = h' ∧ e.length = 49 ∧ e.getD 3 .undef = .ptr i1 0 ∧ e.getD 4 .undef = .ptr i7 0 ∧ e.getD 6 .undef = .str y14.1 ∧ e.getD 8 .undef = .int .i64 s.2.1 ∧ e.getD 9 .undef = .bool s.2.2.1 ∧ e.getD 10 .undef = .int .i64 s.2.2.2 ∧ e.getD 25 .undef = .bool (y77 != 4294967295)) (by
        simp only [↓WE, WA, WL, aop, ofValue, ofCell, isConst, abin, acall1, abuiltin, aun, AV.cells, AV.one, Nat.reduceAdd, Int.reduceLT, Int.reduceLE, ↓WD, W0, evalOp, Nat.reduceEqDiff, Nat.reduceLT, ↓reduceIte, reduceCtorEq, hl, e3, e4, e6, e8, e9, e10, e19, oi75, ol76]
        exact ⟨rfl, (by simp only [List.length_set, hl]), (by simp only [W0, Nat.reduceEqDiff, Nat.reduceLT, ↓reduceIte, hl, e3, e4, e6, e8, e9, e10, e19]), (by simp only [W0, Nat.reduceEqDiff, Nat.reduceLT, ↓reduceIte, hl, e3, e4, e6, e8, e9, e10, e19]), (by simp only [W0, Nat.reduceEqDiff, Nat.reduceLT, ↓reduceIte, hl, e3, e4, e6, e8, e9, e10, e19]), (by simp only [W0, Nat.reduceEqDiff, Nat.reduceLT, ↓reduceIte, hl, e3, e4, e6, e8, e9, e10, e19]), (by simp only [W0, Nat.reduceEqDiff, Nat.reduceLT, ↓reduceIte, hl, e3, e4, e6, e8, e9, e10, e19]), (by simp only [W0, Nat.reduceEqDiff, Nat.reduceLT, ↓reduceIte, hl, e3, e4, e6, e8, e9, e10, e19]), (by simp only [W0, Nat.reduceEqDiff, Nat.reduceLT, ↓reduceIte, hl, e3, e4, e6, e8, e9, e10, e19])⟩) ?_
      rintro envg78 _ ⟨rfl, hl, e3, e4, e6, e8, e9, e10, e25⟩
      try simp only [↓WD, W0, evalOp, Nat.reduceEqDiff, Nat.reduceLT, ↓reduceIte, reduceCtorEq, hl, e3, e4, e6, e8, e9, e10, e25]
      refine CondK_boo (fun c81 => ?_) (fun c81 => ?_)
      · rw [if_pos c81] at wr120
        try simp only [↓WD, W0, evalOp, Nat.reduceEqDiff, Nat.reduceLT, ↓reduceIte, reduceCtorEq, hl, e3, e4, e6, e8, e9, e10, e25]
        rw [AW_region]
        refine AE_joinR (fun e h' => h69 = h' ∧ e.length = 49 ∧ e.getD 3 .undef = .ptr i1 0 ∧ e.getD 4 .undef = .ptr i7 0 ∧ e.getD 6 .undef = .str y14.1 ∧ e.getD 8 .undef = .int .i64 s.2.1 ∧ e.getD 9 .undef = .bool s.2.2.1 ∧ e.getD 10 .undef = .int .i64 (IntKind.i64.wrap (s.2.2.2 + 1))) (by
          simp only [↓WE, WA, WL, aop, ofValue, ofCell, isConst, abin, acall1, abuiltin, aun, AV.cells, AV.one, Nat.reduceAdd, Int.reduceLT, Int.reduceLE, ↓WD, W0, evalOp, Nat.reduceEqDiff, Nat.reduceLT, ↓reduceIte, reduceCtorEq, hl, e3, e4, e6, e8, e9, e10, e25]
          exact ⟨rfl, (by simp only [List.length_set, hl]), (by simp only [W0, Nat.reduceEqDiff, Nat.reduceLT, ↓reduceIte, hl, e3, e4, e6, e8, e9, e10, e25]), (by simp only [W0, Nat.reduceEqDiff, Nat.reduceLT, ↓reduceIte, hl, e3, e4, e6, e8, e9, e10, e25]), (by simp only [W0, Nat.reduceEqDiff, Nat.reduceLT, ↓reduceIte, hl, e3, e4, e6, e8, e9, e10, e25]), (by simp only [W0, Nat.reduceEqDiff, Nat.reduceLT, ↓reduceIte, hl, e3, e4, e6, e8, e9, e10, e25]), (by simp only [W0, Nat.reduceEqDiff, Nat.reduceLT, ↓reduceIte, hl, e3, e4, e6, e8, e9, e10, e25]), (by simp only [W0, Nat.reduceEqDiff, Nat.reduceLT, ↓reduceIte, hl, e3, e4, e6, e8, e9, e10, e25])⟩) ?_
        rintro envg82 _ ⟨rfl, hl, e3, e4, e6, e8, e9, e10⟩
        try simp only [↓WD, W0, evalOp, Nat.reduceEqDiff, Nat.reduceLT, ↓reduceIte, reduceCtorEq, hl, e3, e4, e6, e8, e9, e10]
        obtain rfl := Option.some.inj wr120
        rw [KP_nil, QL_normal]
        exact ⟨_, rfl, (by simp only [List.length_set, hl]), (by simp only [W0, Nat.reduceEqDiff, Nat.reduceLT, ↓reduceIte, hl, e3, e4, e6, e8, e9, e10]), (by simp only [W0, Nat.reduceEqDiff, Nat.reduceLT, ↓reduceIte, hl, e3, e4, e6, e8, e9, e10]), (by simp only [W0, Nat.reduceEqDiff, Nat.reduceLT, ↓reduceIte, hl, e3, e4, e6, e8, e9, e10]), (by simp only [W0, Nat.reduceEqDiff, Nat.reduceLT, ↓reduceIte, hl, e3, e4, e6, e8, e9, e10]), (by simp only [W0, Nat.reduceEqDiff, Nat.reduceLT, ↓reduceIte, hl, e3, e4, e6, e8, e9, e10]), (by simp only [W0, Nat.reduceEqDiff, Nat.reduceLT, ↓reduceIte, hl, e3, e4, e6, e8, e9, e10]), S70⟩
      · rw [if_neg (nf c81)] at wr120
        try simp only [↓WD, W0, evalOp, Nat.reduceEqDiff, Nat.reduceLT, ↓reduceIte, reduceCtorEq, hl, e3, e4, e6, e8, e9, e10, e25]
        rw [AW_region]
        obtain ⟨y83, qy83, wr120⟩ := obind wr120
        have og84 := fun (D : Drawn) (n : Nat) (g : AH) => call_hook (P := Try.prog) (D := D) k53 n (args := [.str y14.1, .int .i64 s.2.1, .int .i64 8]) (v := .tup [.int .u64 y83.1, .int .i64 y83.2]) ((kf_53_eq y14.1 s.2.1 8).trans (by rw [qy83]; rfl)) g
        refine AE_joinR (fun e h' => h69 = h' ∧ e.length = 49 ∧ e.getD 3 .undef = .ptr i1 0 ∧ e.getD 4 .undef = .ptr i7 0 ∧ e.getD 6 .undef = .str y14.1 ∧ e.getD 8 .undef = .int .i64 s.2.1 ∧ e.getD 9 .undef = .bool s.2.2.1 ∧ e.getD 10 .undef = .int .i64 s.2.2.2 ∧ e.getD 11 .undef = .int .u64 y83.1 ∧ e.getD 12 .undef = .int .i64 y83.2) (by
          simp only [↓WE, WA, WL, aop, ofValue, ofCell, isConst, abin, acall1, abuiltin, aun, AV.cells, AV.one, Nat.reduceAdd, Int.reduceLT, Int.reduceLE, ↓WD, W0, evalOp, Nat.reduceEqDiff, Nat.reduceLT, ↓reduceIte, reduceCtorEq, hl, e3, e4, e6, e8, e9, e10, e25, og84]
          exact ⟨rfl, (by simp only [List.length_set, hl]), (by simp only [W0, Nat.reduceEqDiff, Nat.reduceLT, ↓reduceIte, hl, e3, e4, e6, e8, e9, e10, e25]), (by simp only [W0, Nat.reduceEqDiff, Nat.reduceLT, ↓reduceIte, hl, e3, e4, e6, e8, e9, e10, e25]), (by simp only [W0, Nat.reduceEqDiff, Nat.reduceLT, ↓reduceIte, hl, e3, e4, e6, e8, e9, e10, e25]), (by simp only [W0, Nat.reduceEqDiff, Nat.reduceLT, ↓reduceIte, hl, e3, e4, e6, e8, e9, e10, e25]), (by simp only [W0, Nat.reduceEqDiff, Nat.reduceLT, ↓reduceIte, hl, e3, e4, e6, e8, e9, e10, e25]), (by simp only [W0, Nat.reduceEqDiff, Nat.reduceLT, ↓reduceIte, hl, e3, e4, e6, e8, e9, e10, e25]), (by simp only [W0, Nat.reduceEqDiff, Nat.reduceLT, ↓reduceIte, hl, e3, e4, e6, e8, e9, e10, e25]), (by simp only [W0, Nat.reduceEqDiff, Nat.reduceLT, ↓reduceIte, hl, e3, e4, e6, e8, e9, e10, e25])⟩) ?_
        rintro envg85 _ ⟨rfl, hl, e3, e4, e6, e8, e9, e10, e11, e12⟩
        try simp only [↓WD, W0, evalOp, Nat.reduceEqDiff, Nat.reduceLT, ↓reduceIte, reduceCtorEq, hl, e3, e4, e6, e8, e9, e10, e11, e12]
        rw [AW_region]
        refine AE_joinR (fun e h' => h69 = h' ∧ e.length = 49 ∧ e.getD 3 .undef = .ptr i1 0 ∧ e.getD 4 .undef = .ptr i7 0 ∧ e.getD 6 .undef = .str y14.1 ∧ e.getD 8 .undef = .int .i64 s.2.1 ∧ e.getD 9 .undef = .bool s.2.2.1 ∧ e.getD 10 .undef = .int .i64 s.2.2.2 ∧ e.getD 11 .undef = .int .u64 y83.1 ∧ e.getD 33 .undef = .bool (y83.2 != 0)) (by
          simp only [↓WE, WA, WL, aop, ofValue, ofCell, isConst, abin, acall1, abuiltin, aun, AV.cells, AV.one, Nat.reduceAdd, Int.reduceLT, Int.reduceLE, ↓WD, W0, evalOp, Nat.reduceEqDiff, Nat.reduceLT, ↓reduceIte, reduceCtorEq, hl, e3, e4, e6, e8, e9, e10, e11, e12]
          exact ⟨rfl, (by simp only [List.length_set, hl]), (by simp only [W0, Nat.reduceEqDiff, Nat.reduceLT, ↓reduceIte, hl, e3, e4, e6, e8, e9, e10, e11, e12]), (by simp only [W0, Nat.reduceEqDiff, Nat.reduceLT, ↓reduceIte, hl, e3, e4, e6, e8, e9, e10, e11, e12]), (by simp only [W0, Nat.reduceEqDiff, Nat.reduceLT, ↓reduceIte, hl, e3, e4, e6, e8, e9, e10, e11, e12]), (by simp only [W0, Nat.reduceEqDiff, Nat.reduceLT, ↓reduceIte, hl, e3, e4, e6, e8, e9, e10, e11, e12]), (by simp only [W0, Nat.reduceEqDiff, Nat.reduceLT, ↓reduceIte, hl, e3, e4, e6, e8, e9, e10, e11, e12]), (by simp only [W0, Nat.reduceEqDiff, Nat.reduceLT, ↓reduceIte, hl, e3, e4, e6, e8, e9, e10, e11, e12]), (by simp only [W0, Nat.reduceEqDiff, Nat.reduceLT, ↓reduceIte, hl, e3, e4, e6, e8, e9, e10, e11, e12]), (by simp only [W0, Nat.reduceEqDiff, Nat.reduceLT, ↓reduceIte, hl, e3, e4, e6, e8, e9, e10, e11, e12])⟩) ?_
        rintro envg86 _ ⟨rfl, hl, e3, e4, e6, e8, e9, e10, e11, e33⟩
        try simp only [↓WD, W0, evalOp, Nat.reduceEqDiff, Nat.reduceLT, ↓reduceIte, reduceCtorEq, hl, e3, e4, e6, e8, e9, e10, e11, e33]
        refine CondK_boo (fun c95 => ?_) (fun c95 => ?_)
        · rw [if_pos c95] at wr120
          try simp only [↓WD, W0, evalOp, Nat.reduceEqDiff, Nat.reduceLT, ↓reduceIte, reduceCtorEq, hl, e3, e4, e6, e8, e9, e10, e11, e33]
          rw [AW_region]
          obtain ⟨_, q99, wr120⟩ := obind wr120
          obtain ⟨_, q100, wr120⟩ := obind wr120
          obtain ⟨h96, os97, S98⟩ := S70.storeAll (P := Try.prog) 1 rfl (t := 53) sz_53 q99 q100
          simp only [List.map_cons, List.map_nil] at os97
          have S101 : Sep h [] h96 [.blk i1 (s.1.map (AV.int .i64)) 53, .blk i7 ([0, 0, 0].map (AV.int .i64)) 53] := S98
          refine AE_joinR (fun e h' => h96 = h' ∧ e.length = 49 ∧ e.getD 4 .undef = .ptr i7 0 ∧ e.getD 5 .undef = .int .i64 2) (by
            simp only [↓WE, WA, WL, aop, ofValue, ofCell, isConst, abin, acall1, abuiltin, aun, AV.cells, AV.one, Nat.reduceAdd, Int.reduceLT, Int.reduceLE, ↓WD, W0, evalOp, Nat.reduceEqDiff, Nat.reduceLT, ↓reduceIte, reduceCtorEq, hl, e3, e4, e6, e8, e9, e10, e11, e33, bd_53, os97]
            exact ⟨rfl, (by simp only [List.length_set, hl]), (by simp only [W0, Nat.reduceEqDiff, Nat.reduceLT, ↓reduceIte, hl, e3, e4, e6, e8, e9, e10, e11, e33]), (by simp only [W0, Nat.reduceEqDiff, Nat.reduceLT, ↓reduceIte, hl, e3, e4, e6, e8, e9, e10, e11, e33])⟩) ?_
          rintro envg102 _ ⟨rfl, hl, e4, e5⟩
          try simp only [↓WD, W0, evalOp, Nat.reduceEqDiff, Nat.reduceLT, ↓reduceIte, reduceCtorEq, hl, e4, e5]
          obtain rfl := Option.some.inj wr120
          rw [KP_nil, QL_ret]
          exact ⟨_, rfl, .inr (⟨_, rfl, rfl, (by simp only [List.length_set, hl]), (by simp only [W0, Nat.reduceEqDiff, Nat.reduceLT, ↓reduceIte, hl, e4, e5]), (by simp only [W0, Nat.reduceEqDiff, Nat.reduceLT, ↓reduceIte, hl, e4, e5]), S101.pick [1] (by decide) rfl⟩)⟩
        · rw [if_neg (nf c95)] at wr120
          try simp only [↓WD, W0, evalOp, Nat.reduceEqDiff, Nat.reduceLT, ↓reduceIte, reduceCtorEq, hl, e3, e4, e6, e8, e9, e10, e11, e33]
          rw [AW_region]
          refine AE_joinR (fun e h' => h69 = h' ∧ e.length = 49 ∧ e.getD 3 .undef = .ptr i1 0 ∧ e.getD 4 .undef = .ptr i7 0 ∧ e.getD 6 .undef = .str y14.1 ∧ e.getD 8 .undef = .int .i64 (IntKind.i64.wrap (s.2.1 + 8)) ∧ e.getD 9 .undef = .bool s.2.2.1 ∧ e.getD 10 .undef = .int .i64 s.2.2.2 ∧ e.getD 11 .undef = .int .u64 y83.1) (by
            simp only [↓WE, WA, WL, aop, ofValue, ofCell, isConst, abin, acall1, abuiltin, aun, AV.cells, AV.one, Nat.reduceAdd, Int.reduceLT, Int.reduceLE, ↓WD, W0, evalOp, Nat.reduceEqDiff, Nat.reduceLT, ↓reduceIte, reduceCtorEq, hl, e3, e4, e6, e8, e9, e10, e11, e33]
            exact ⟨rfl, (by simp only [List.length_set, hl]), (by simp only [W0, Nat.reduceEqDiff, Nat.reduceLT, ↓reduceIte, hl, e3, e4, e6, e8, e9, e10, e11, e33]), (by simp only [W0, Nat.reduceEqDiff, Nat.reduceLT, ↓reduceIte, hl, e3, e4, e6, e8, e9, e10, e11, e33]), (by simp only [W0, Nat.reduceEqDiff, Nat.reduceLT, ↓reduceIte, hl, e3, e4, e6, e8, e9, e10, e11, e33]), (by simp only [W0, Nat.reduceEqDiff, Nat.reduceLT, ↓reduceIte, hl, e3, e4, e6, e8, e9, e10, e11, e33]), (by simp only [W0, Nat.reduceEqDiff, Nat.reduceLT, ↓reduceIte, hl, e3, e4, e6, e8, e9, e10, e11, e33]), (by simp only [W0, Nat.reduceEqDiff, Nat.reduceLT, ↓reduceIte, hl, e3, e4, e6, e8, e9, e10, e11, e33]), (by simp only [W0, Nat.reduceEqDiff, Nat.reduceLT, ↓reduceIte, hl, e3, e4, e6, e8, e9, e10, e11, e33])⟩) ?_
          rintro envg103 _ ⟨rfl, hl, e3, e4, e6, e8, e9, e10, e11⟩
          try simp only [↓WD, W0, evalOp, Nat.reduceEqDiff, Nat.reduceLT, ↓reduceIte, reduceCtorEq, hl, e3, e4, e6, e8, e9, e10, e11]
          rw [AW_region]
          obtain ⟨j107, qj107, wr120⟩ := obind wr120
          refine AE_joinR (fun e h' => e.length = 49 ∧ e.getD 3 .undef = .ptr i1 0 ∧ e.getD 4 .undef = .ptr i7 0 ∧ e.getD 6 .undef = .str y14.1 ∧ e.getD 8 .undef = .int .i64 (IntKind.i64.wrap (s.2.1 + 8)) ∧ e.getD 9 .undef = .bool j107 ∧ e.getD 10 .undef = .int .i64 s.2.2.2 ∧ e.getD 11 .undef = .int .u64 y83.1 ∧ Sep h [] h' [.blk i1 (s.1.map (AV.int .i64)) 53, .blk i7 ([0, 0, 0].map (AV.int .i64)) 53]) ?_ ?_
          · simp only [↓WE, WA, WL, aop, ofValue, ofCell, isConst, abin, acall1, abuiltin, aun, AV.cells, AV.one, Nat.reduceAdd, Int.reduceLT, Int.reduceLE, ↓WD, W0, evalOp, Nat.reduceEqDiff, Nat.reduceLT, ↓reduceIte, reduceCtorEq, hl, e3, e4, e6, e8, e9, e10, e11]
            refine GuardW_boo (fun c104 => ?_) (fun c104 => ?_)
            · rw [if_pos c104] at qj107
              have d105 := c104
              simp only [↓WE, WA, WL, aop, ofValue, ofCell, isConst, abin, acall1, abuiltin, aun, AV.cells, AV.one, Nat.reduceAdd, Int.reduceLT, Int.reduceLE, ↓WD, W0, evalOp, Nat.reduceEqDiff, Nat.reduceLT, ↓reduceIte, reduceCtorEq, hl, e3, e4, e6, e8, e9, e10, e11, d105]
              obtain rfl := Option.some.inj qj107
              exact ⟨(by simp only [List.length_set, hl]), (by simp only [W0, Nat.reduceEqDiff, Nat.reduceLT, ↓reduceIte, hl, e3, e4, e6, e8, e9, e10, e11]), (by simp only [W0, Nat.reduceEqDiff, Nat.reduceLT, ↓reduceIte, hl, e3, e4, e6, e8, e9, e10, e11]), (by simp only [W0, Nat.reduceEqDiff, Nat.reduceLT, ↓reduceIte, hl, e3, e4, e6, e8, e9, e10, e11]), (by simp only [W0, Nat.reduceEqDiff, Nat.reduceLT, ↓reduceIte, hl, e3, e4, e6, e8, e9, e10, e11]), (by simp only [W0, Nat.reduceEqDiff, Nat.reduceLT, ↓reduceIte, hl, e3, e4, e6, e8, e9, e10, e11]), (by simp only [W0, Nat.reduceEqDiff, Nat.reduceLT, ↓reduceIte, hl, e3, e4, e6, e8, e9, e10, e11]), (by simp only [W0, Nat.reduceEqDiff, Nat.reduceLT, ↓reduceIte, hl, e3, e4, e6, e8, e9, e10, e11]), S70⟩
            · rw [if_neg (nf c104)] at qj107
              have d106 := c104
              simp only [↓WE, WA, WL, aop, ofValue, ofCell, isConst, abin, acall1, abuiltin, aun, AV.cells, AV.one, Nat.reduceAdd, Int.reduceLT, Int.reduceLE, ↓WD, W0, evalOp, Nat.reduceEqDiff, Nat.reduceLT, ↓reduceIte, reduceCtorEq, hl, e3, e4, e6, e8, e9, e10, e11, d106]
              obtain rfl := Option.some.inj qj107
              exact ⟨(by simp only [List.length_set, hl]), (by simp only [W0, Nat.reduceEqDiff, Nat.reduceLT, ↓reduceIte, hl, e3, e4, e6, e8, e9, e10, e11]), (by simp only [W0, Nat.reduceEqDiff, Nat.reduceLT, ↓reduceIte, hl, e3, e4, e6, e8, e9, e10, e11]), (by simp only [W0, Nat.reduceEqDiff, Nat.reduceLT, ↓reduceIte, hl, e3, e4, e6, e8, e9, e10, e11]), (by simp only [W0, Nat.reduceEqDiff, Nat.reduceLT, ↓reduceIte, hl, e3, e4, e6, e8, e9, e10, e11]), (by simp only [W0, Nat.reduceEqDiff, Nat.reduceLT, ↓reduceIte, hl, e3, e4, e6, e8, e9, e10, e11]), (by simp only [W0, Nat.reduceEqDiff, Nat.reduceLT, ↓reduceIte, hl, e3, e4, e6, e8, e9, e10, e11]), (by simp only [W0, Nat.reduceEqDiff, Nat.reduceLT, ↓reduceIte, hl, e3, e4, e6, e8, e9, e10, e11]), S70⟩
          · rintro envj107 h109 ⟨hl, e3, e4, e6, e8, e9, e10, e11, S108⟩
            try simp only [↓WD, W0, evalOp, Nat.reduceEqDiff, Nat.reduceLT, ↓reduceIte, reduceCtorEq, hl, e3, e4, e6, e8, e9, e10, e11]
            rw [AW_region]
            have oc110 := fun g : AH => aconv_int (P := Try.prog) (h := g) (n := y83.1) (k' := .u64) Try.underlying25 Try.underlying3
            obtain ⟨_, q111, wr120⟩ := obind wr120
            have oi112 := ia_53 i1 0 .i64 (chkIdx_lo q111) (chkIdx_hi q111)
            obtain ⟨y116, qy116, wr120⟩ := obind wr120
            obtain ⟨h113, os114, S115⟩ := S108.storeA (P := Try.prog) 0 rfl sz_3 qy116
            have S117 : Sep h [] h113 [.blk i1 (y116.map (AV.int .i64)) 53, .blk i7 ([0, 0, 0].map (AV.int .i64)) 53] := S115
            refine AE_joinR (fun e h' => h113 = h' ∧ e.length = 49 ∧ e.getD 3 .undef = .ptr i1 0 ∧ e.getD 4 .undef = .ptr i7 0 ∧ e.getD 6 .undef = .str y14.1 ∧ e.getD 8 .undef = .int .i64 (IntKind.i64.wrap (s.2.1 + 8)) ∧ e.getD 9 .undef = .bool j107 ∧ e.getD 10 .undef = .int .i64 s.2.2.2) (by
              simp only [↓WE, WA, WL, aop, ofValue, ofCell, isConst, abin, acall1, abuiltin, aun, AV.cells, AV.one, Nat.reduceAdd, Int.reduceLT, Int.reduceLE, ↓WD, W0, evalOp, Nat.reduceEqDiff, Nat.reduceLT, ↓reduceIte, reduceCtorEq, hl, e3, e4, e6, e8, e9, e10, e11, oc110, oi112, os114]
              exact ⟨rfl, (by simp only [List.length_set, hl]), (by simp only [W0, Nat.reduceEqDiff, Nat.reduceLT, ↓reduceIte, hl, e3, e4, e6, e8, e9, e10, e11]), (by simp only [W0, Nat.reduceEqDiff, Nat.reduceLT, ↓reduceIte, hl, e3, e4, e6, e8, e9, e10, e11]), (by simp only [W0, Nat.reduceEqDiff, Nat.reduceLT, ↓reduceIte, hl, e3, e4, e6, e8, e9, e10, e11]), (by simp only [W0, Nat.reduceEqDiff, Nat.reduceLT, ↓reduceIte, hl, e3, e4, e6, e8, e9, e10, e11]), (by simp only [W0, Nat.reduceEqDiff, Nat.reduceLT, ↓reduceIte, hl, e3, e4, e6, e8, e9, e10, e11]), (by simp only [W0, Nat.reduceEqDiff, Nat.reduceLT, ↓reduceIte, hl, e3, e4, e6, e8, e9, e10, e11])⟩) ?_
            rintro envg118 _ ⟨rfl, hl, e3, e4, e6, e8, e9, e10⟩
            try simp only [↓WD, W0, evalOp, Nat.reduceEqDiff, Nat.reduceLT, ↓reduceIte, reduceCtorEq, hl, e3, e4, e6, e8, e9, e10]
            rw [AW_region]
            refine AE_joinR (fun e h' => h113 = h' ∧ e.length = 49 ∧ e.getD 3 .undef = .ptr i1 0 ∧ e.getD 4 .undef = .ptr i7 0 ∧ e.getD 6 .undef = .str y14.1 ∧ e.getD 8 .undef = .int .i64 (IntKind.i64.wrap (s.2.1 + 8)) ∧ e.getD 9 .undef = .bool j107 ∧ e.getD 10 .undef = .int .i64 (IntKind.i64.wrap (s.2.2.2 + 1))) (by
              simp only [↓WE, WA, WL, aop, ofValue, ofCell, isConst, abin, acall1, abuiltin, aun, AV.cells, AV.one, Nat.reduceAdd, Int.reduceLT, Int.reduceLE, ↓WD, W0, evalOp, Nat.reduceEqDiff, Nat.reduceLT, ↓reduceIte, reduceCtorEq, hl, e3, e4, e6, e8, e9, e10]
              exact ⟨rfl, (by simp only [List.length_set, hl]), (by simp only [W0, Nat.reduceEqDiff, Nat.reduceLT, ↓reduceIte, hl, e3, e4, e6, e8, e9, e10]), (by simp only [W0, Nat.reduceEqDiff, Nat.reduceLT, ↓reduceIte, hl, e3, e4, e6, e8, e9, e10]), (by simp only [W0, Nat.reduceEqDiff, Nat.reduceLT, ↓reduceIte, hl, e3, e4, e6, e8, e9, e10]), (by simp only [W0, Nat.reduceEqDiff, Nat.reduceLT, ↓reduceIte, hl, e3, e4, e6, e8, e9, e10]), (by simp only [W0, Nat.reduceEqDiff, Nat.reduceLT, ↓reduceIte, hl, e3, e4, e6, e8, e9, e10]), (by simp only [W0, Nat.reduceEqDiff, Nat.reduceLT, ↓reduceIte, hl, e3, e4, e6, e8, e9, e10])⟩) ?_
            rintro envg119 _ ⟨rfl, hl, e3, e4, e6, e8, e9, e10⟩
            try simp only [↓WD, W0, evalOp, Nat.reduceEqDiff, Nat.reduceLT, ↓reduceIte, reduceCtorEq, hl, e3, e4, e6, e8, e9, e10]
            obtain rfl := Option.some.inj wr120
            rw [KP_nil, QL_normal]
            exact ⟨_, rfl, (by simp only [List.length_set, hl]), (by simp only [W0, Nat.reduceEqDiff, Nat.reduceLT, ↓reduceIte, hl, e3, e4, e6, e8, e9, e10]), (by simp only [W0, Nat.reduceEqDiff, Nat.reduceLT, ↓reduceIte, hl, e3, e4, e6, e8, e9, e10]), (by simp only [W0, Nat.reduceEqDiff, Nat.reduceLT, ↓reduceIte, hl, e3, e4, e6, e8, e9, e10]), (by simp only [W0, Nat.reduceEqDiff, Nat.reduceLT, ↓reduceIte, hl, e3, e4, e6, e8, e9, e10]), (by simp only [W0, Nat.reduceEqDiff, Nat.reduceLT, ↓reduceIte, hl, e3, e4, e6, e8, e9, e10]), (by simp only [W0, Nat.reduceEqDiff, Nat.reduceLT, ↓reduceIte, hl, e3, e4, e6, e8, e9, e10]), S117⟩
    · rw [if_neg c73] at wr120
      try simp only [↓WD, W0, evalOp, Nat.reduceEqDiff, Nat.reduceLT, ↓reduceIte, reduceCtorEq, hl, e3, e4, e6, e8, e9, e10, e19]
      obtain rfl := Option.some.inj wr120
      rw [KP_nil, QL_exit]
      exact ⟨_, rfl, .inl ⟨_, rfl, rfl, (by simp only [List.length_set, hl]), (by simp only [W0, Nat.reduceEqDiff, Nat.reduceLT, ↓reduceIte, hl, e3, e4, e6, e8, e9, e10, e19]), (by simp only [W0, Nat.reduceEqDiff, Nat.reduceLT, ↓reduceIte, hl, e3, e4, e6, e8, e9, e10, e19]), (by simp only [W0, Nat.reduceEqDiff, Nat.reduceLT, ↓reduceIte, hl, e3, e4, e6, e8, e9, e10, e19]), S70⟩⟩
  · exact ⟨(by simp only [List.length_set, hl]), (by simp only [W0, Nat.reduceEqDiff, Nat.reduceLT, ↓reduceIte, hl, e3, e4, e6, e8, e9, e10]), (by simp only [W0, Nat.reduceEqDiff, Nat.reduceLT, ↓reduceIte, hl, e3, e4, e6, e8, e9, e10]), (by simp only [W0, Nat.reduceEqDiff, Nat.reduceLT, ↓reduceIte, hl, e3, e4, e6, e8, e9, e10]), (by simp only [W0, Nat.reduceEqDiff, Nat.reduceLT, ↓reduceIte, hl, e3, e4, e6, e8, e9, e10]), (by simp only [W0, Nat.reduceEqDiff, Nat.reduceLT, ↓reduceIte, hl, e3, e4, e6, e8, e9, e10]), (by simp only [W0, Nat.reduceEqDiff, Nat.reduceLT, ↓reduceIte, hl, e3, e4, e6, e8, e9, e10]), S19⟩
  · intro x envr120 h122 hk
    rcases hk with ⟨t121, rfl, rfl, hl, e3, e4, e9, S123⟩ | ⟨t124, rfl, rfl, hl, e4, e5, S126⟩
    · skip
      rw [sumK_inl] at hF
      try simp only [↓WD, W0, evalOp, Nat.reduceEqDiff, Nat.reduceLT, ↓reduceIte, reduceCtorEq, hl, e3, e4, e9]
      rw [AW_region]
      refine AE_joinR (fun e h' => h122 = h' ∧ e.length = 49 ∧ e.getD 3 .undef = .ptr i1 0 ∧ e.getD 4 .undef = .ptr i7 0 ∧ e.getD 46 .undef = .bool t121.2) (by
        simp only [↓WE, WA, WL, aop, ofValue, ofCell, isConst, abin, acall1, abuiltin, aun, AV.cells, AV.one, Nat.reduceAdd, Int.reduceLT, Int.reduceLE, ↓WD, W0, evalOp, Nat.reduceEqDiff, Nat.reduceLT, ↓reduceIte, reduceCtorEq, hl, e3, e4, e9]
        exact ⟨rfl, (by simp only [List.length_set, hl]), (by simp only [W0, Nat.reduceEqDiff, Nat.reduceLT, ↓reduceIte, hl, e3, e4, e9]), (by simp only [W0, Nat.reduceEqDiff, Nat.reduceLT, ↓reduceIte, hl, e3, e4, e9]), (by simp only [W0, Nat.reduceEqDiff, Nat.reduceLT, ↓reduceIte, hl, e3, e4, e9])⟩) ?_
      rintro envg127 _ ⟨rfl, hl, e3, e4, e46⟩
      try simp only [↓WD, W0, evalOp, Nat.reduceEqDiff, Nat.reduceLT, ↓reduceIte, reduceCtorEq, hl, e3, e4, e46]
      refine CondK_boo (fun c137 => ?_) (fun c137 => ?_)
      · rw [if_pos c137] at hF
        try simp only [↓WD, W0, evalOp, Nat.reduceEqDiff, Nat.reduceLT, ↓reduceIte, reduceCtorEq, hl, e3, e4, e46]
        rw [AW_region]
        obtain ⟨_, q141, hF⟩ := obind hF
        obtain ⟨_, q142, hF⟩ := obind hF
        obtain ⟨h138, os139, S140⟩ := S123.storeAll (P := Try.prog) 1 rfl (t := 53) sz_53 q141 q142
        simp only [List.map_cons, List.map_nil] at os139
        have S143 : Sep h [] h138 [.blk i1 (t121.1.map (AV.int .i64)) 53, .blk i7 ([0, 0, 0].map (AV.int .i64)) 53] := S140
        refine AE_joinR (fun e h' => h138 = h' ∧ e.length = 49 ∧ e.getD 4 .undef = .ptr i7 0 ∧ e.getD 5 .undef = .int .i64 7) (by
          simp only [↓WE, WA, WL, aop, ofValue, ofCell, isConst, abin, acall1, abuiltin, aun, AV.cells, AV.one, Nat.reduceAdd, Int.reduceLT, Int.reduceLE, ↓WD, W0, evalOp, Nat.reduceEqDiff, Nat.reduceLT, ↓reduceIte, reduceCtorEq, hl, e3, e4, e46, bd_53, os139]
          exact ⟨rfl, (by simp only [List.length_set, hl]), (by simp only [W0, Nat.reduceEqDiff, Nat.reduceLT, ↓reduceIte, hl, e3, e4, e46]), (by simp only [W0, Nat.reduceEqDiff, Nat.reduceLT, ↓reduceIte, hl, e3, e4, e46])⟩) ?_
        rintro envg144 _ ⟨rfl, hl, e4, e5⟩
        try simp only [↓WD, W0, evalOp, Nat.reduceEqDiff, Nat.reduceLT, ↓reduceIte, reduceCtorEq, hl, e4, e5]
        obtain ⟨_, qol145, hF⟩ := obind hF
        have ol145 := S143.load (P := Try.prog) 1 rfl (t := 53) (apart_all ag_53 sz_53 qol145)
        simp only [List.map_cons, List.map_nil] at ol145
        refine KP_ret (vs := [.agg [.int .i64 0, .int .i64 0, .int .i64 0], .int .i64 7]) (by simp only [aresults, aresult, gs, List.length_set, Nat.reduceEqDiff, Nat.reduceLT, ↓reduceIte, hl, e4, e5, ol145]) ?_
        obtain rfl := Option.some.inj hF
        exact ⟨rfl, S143.pick [] (by decide) rfl⟩
      · rw [if_neg (nf c137)] at hF
        try simp only [↓WD, W0, evalOp, Nat.reduceEqDiff, Nat.reduceLT, ↓reduceIte, reduceCtorEq, hl, e3, e4, e46]
        rw [AW_region]
        obtain ⟨_, qol146, hF⟩ := obind hF
        have ol146 := S123.load (P := Try.prog) 0 rfl (t := 53) (apart_all ag_53 sz_53 qol146)
        obtain ⟨_, q150, hF⟩ := obind hF
        obtain ⟨_, q151, hF⟩ := obind hF
        obtain ⟨h147, os148, S149⟩ := S123.storeAll (P := Try.prog) 1 rfl (t := 53) sz_53 q150 q151
        have S152 : Sep h [] h147 [.blk i1 (t121.1.map (AV.int .i64)) 53, .blk i7 (t121.1.map (AV.int .i64)) 53] := S149
        refine AE_joinR (fun e h' => h147 = h' ∧ e.length = 49 ∧ e.getD 4 .undef = .ptr i7 0 ∧ e.getD 5 .undef = .int .i64 0) (by
          simp only [↓WE, WA, WL, aop, ofValue, ofCell, isConst, abin, acall1, abuiltin, aun, AV.cells, AV.one, Nat.reduceAdd, Int.reduceLT, Int.reduceLE, ↓WD, W0, evalOp, Nat.reduceEqDiff, Nat.reduceLT, ↓reduceIte, reduceCtorEq, hl, e3, e4, e46, ol146, os148]
          exact ⟨rfl, (by simp only [List.length_set, hl]), (by simp only [W0, Nat.reduceEqDiff, Nat.reduceLT, ↓reduceIte, hl, e3, e4, e46]), (by simp only [W0, Nat.reduceEqDiff, Nat.reduceLT, ↓reduceIte, hl, e3, e4, e46])⟩) ?_
        rintro envg153 _ ⟨rfl, hl, e4, e5⟩
        try simp only [↓WD, W0, evalOp, Nat.reduceEqDiff, Nat.reduceLT, ↓reduceIte, reduceCtorEq, hl, e4, e5]
        obtain ⟨_, qol154, hF⟩ := obind hF
        have ol154 := S152.load (P := Try.prog) 1 rfl (t := 53) (apart_all ag_53 sz_53 qol154)
        refine KP_ret (vs := [.agg (t121.1.map (AV.int .i64)), .int .i64 0]) (by simp only [aresults, aresult, gs, List.length_set, Nat.reduceEqDiff, Nat.reduceLT, ↓reduceIte, hl, e4, e5, ol154]) ?_
        obtain rfl := Option.some.inj hF
        exact ⟨rfl, S152.pick [] (by decide) rfl⟩
    · skip
      rw [sumK_inr] at hF
      try simp only [↓WD, W0, evalOp, Nat.reduceEqDiff, Nat.reduceLT, ↓reduceIte, reduceCtorEq, hl, e4, e5]
      obtain ⟨_, qol155, hF⟩ := obind hF
      have ol155 := S126.load (P := Try.prog) 0 rfl (t := 53) (apart_all ag_53 sz_53 qol155)
      simp only [List.map_cons, List.map_nil] at ol155
      refine KP_ret (vs := [.agg [.int .i64 0, .int .i64 0, .int .i64 0], .int .i64 2]) (by simp only [aresults, aresult, gs, List.length_set, Nat.reduceEqDiff, Nat.reduceLT, ↓reduceIte, hl, e4, e5, ol155]) ?_
      obtain rfl := Option.some.inj hF
      exact ⟨rfl, S126.pick [] (by decide) rfl⟩
set_option maxRecDepth 100000 in
set_option maxHeartbeats 4000000 in
theorem W_ref17_Wide {K : PureK} (k19 : K 19 = some kf_19) (n31 : K 31 = none) (m : Nat) (hm : NF + 1 ≤ m) (h : AH) (un_ : AV) (n_ : List Int) (hun_ : RO 1 un_ h (n_.map (cellI .i64))) {r : Gapi_Extra} (hF : F_ref17_Wide n_ = some r) :
    AR (acall Try.prog (hooksOf K) (drawnOf Try.prog (tabOf K)) m 31 [un_] h) (fun v h' => v = .agg [.int .i64 r.xID, .str r.xData] ∧ Sep h [] h' []) := by
  obtain ⟨m, rfl⟩ : ∃ k, m = k + 1 := ⟨m - 1, by omega⟩
  refine AR_call (hooksOf_none n31) Try.func31 rfl _ _ fun env hl he => ?_
  have e0 := he 0
  simp only [List.getD_cons_zero, List.getD_cons_succ] at e0
  simp only [Try.f31] at hl ⊢
  simp only [List.length_cons, List.length_nil, Nat.reduceAdd, Nat.reduceSub] at hl
  clear he
  have S0 : Sep h [] h [] := Sep.nil h
  rw [F_ref17_Wide] at hF
  try simp only [↓WD, W0, evalOp, Nat.reduceEqDiff, Nat.reduceLT, ↓reduceIte, reduceCtorEq, hl, e0]
  rw [AW_region]
  obtain ⟨i1, h2, oa3, S4⟩ := S0.alloc 47 [.int .i64 0, .str []]
  have S6 : Sep h [] h2 [.blk i1 [.int .i64 0, .str []] 47] := S4
  refine AE_joinR (fun e h' => h2 = h' ∧ e.length = 21 ∧ e.getD 0 .undef = un_ ∧ e.getD 2 .undef = .ptr i1 0) (by
    simp only [↓WE, WA, WL, aop, ofValue, ofCell, isConst, abin, acall1, abuiltin, aun, AV.cells, AV.one, Nat.reduceAdd, Int.reduceLT, Int.reduceLE, ↓WD, W0, evalOp, Nat.reduceEqDiff, Nat.reduceLT, ↓reduceIte, reduceCtorEq, hl, e0, zero_47, oa3]
    exact ⟨rfl, (by simp only [List.length_set, hl]), (by simp only [W0, Nat.reduceEqDiff, Nat.reduceLT, ↓reduceIte, hl, e0]), (by simp only [W0, Nat.reduceEqDiff, Nat.reduceLT, ↓reduceIte, hl, e0])⟩) ?_
  rintro envg7 _ ⟨rfl, hl, e0, e2⟩
  try simp only [↓WD, W0, evalOp, Nat.reduceEqDiff, Nat.reduceLT, ↓reduceIte, reduceCtorEq, hl, e0, e2]
  rw [AW_region]
  refine AE_joinR (fun e h' => h2 = h' ∧ e.length = 21 ∧ e.getD 0 .undef = un_ ∧ e.getD 2 .undef = .ptr i1 0 ∧ e.getD 3 .undef = .str []) (by
    simp only [↓WE, WA, WL, aop, ofValue, ofCell, isConst, abin, acall1, abuiltin, aun, AV.cells, AV.one, Nat.reduceAdd, Int.reduceLT, Int.reduceLE, ↓WD, W0, evalOp, Nat.reduceEqDiff, Nat.reduceLT, ↓reduceIte, reduceCtorEq, hl, e0, e2]
    exact ⟨rfl, (by simp only [List.length_set, hl]), (by simp only [W0, Nat.reduceEqDiff, Nat.reduceLT, ↓reduceIte, hl, e0, e2]), (by simp only [W0, Nat.reduceEqDiff, Nat.reduceLT, ↓reduceIte, hl, e0, e2]), (by simp only [W0, Nat.reduceEqDiff, Nat.reduceLT, ↓reduceIte, hl, e0, e2])⟩) ?_
  rintro envg8 _ ⟨rfl, hl, e0, e2, e3⟩
  try simp only [↓WD, W0, evalOp, Nat.reduceEqDiff, Nat.reduceLT, ↓reduceIte, reduceCtorEq, hl, e0, e2, e3]
  rw [AW_region]
  refine AE_joinR (fun e h' => h2 = h' ∧ e.length = 21 ∧ e.getD 0 .undef = un_ ∧ e.getD 2 .undef = .ptr i1 0 ∧ e.getD 3 .undef = .str [] ∧ e.getD 4 .undef = .int .i64 0) (by
    simp only [↓WE, WA, WL, aop, ofValue, ofCell, isConst, abin, acall1, abuiltin, aun, AV.cells, AV.one, Nat.reduceAdd, Int.reduceLT, Int.reduceLE, ↓WD, W0, evalOp, Nat.reduceEqDiff, Nat.reduceLT, ↓reduceIte, reduceCtorEq, hl, e0, e2, e3]
    exact ⟨rfl, (by simp only [List.length_set, hl]), (by simp only [W0, Nat.reduceEqDiff, Nat.reduceLT, ↓reduceIte, hl, e0, e2, e3]), (by simp only [W0, Nat.reduceEqDiff, Nat.reduceLT, ↓reduceIte, hl, e0, e2, e3]), (by simp only [W0, Nat.reduceEqDiff, Nat.reduceLT, ↓reduceIte, hl, e0, e2, e3]), (by simp only [W0, Nat.reduceEqDiff, Nat.reduceLT, ↓reduceIte, hl, e0, e2, e3])⟩) ?_
  rintro envg9 _ ⟨rfl, hl, e0, e2, e3, e4⟩
  try simp only [↓WD, W0, evalOp, Nat.reduceEqDiff, Nat.reduceLT, ↓reduceIte, reduceCtorEq, hl, e0, e2, e3, e4]
  obtain ⟨r46, qr46, hF⟩ := obind hF
  refine AW_lift (L_ref17_Wide_1 n_) (fun s e h' => e.length = 21 ∧ e.getD 0 .undef = un_ ∧ e.getD 2 .undef = .ptr i1 0 ∧ e.getD 3 .undef = .str s.1 ∧ e.getD 4 .undef = .int .i64 s.2 ∧ Sep h [] h' [.blk i1 [.int .i64 0, .str []] 47]) (fun r46 x e h' => x = .exit 0 ∧ e.length = 21 ∧ e.getD 2 .undef = .ptr i1 0 ∧ e.getD 3 .undef = .str r46 ∧ Sep h [] h' [.blk i1 [.int .i64 0, .str []] 47]) qr46 (by omega) ?_ ?_ ?_
  · rintro s envr46 h28 or46 ⟨hl, e0, e2, e3, e4, S29⟩ wr46
    rw [L_ref17_Wide_1] at wr46
    try simp only [↓WD, W0, evalOp, Nat.reduceEqDiff, Nat.reduceLT, ↓reduceIte, reduceCtorEq, hl, e0, e2, e3, e4]
    rw [AW_region]
    have ol30 := RO.len (P := Try.prog) sl_52 (S29.ro hun_)
    rw [List.length_map] at ol30
    refine AE_joinR (fun e h' => h28 = h' ∧ e.length = 21 ∧ e.getD 0 .undef = un_ ∧ e.getD 2 .undef = .ptr i1 0 ∧ e.getD 3 .undef = .str s.1 ∧ e.getD 4 .undef = .int .i64 s.2 ∧ e.getD 8 .undef = .bool (decide (s.2 < (n_.length : Int)))) (by
      simp only [↓WE, WA, WL, aop, ofValue, ofCell, isConst, abin, acall1, abuiltin, aun, AV.cells, AV.one, Nat.reduceAdd, Int.reduceLT, Int.reduceLE, ↓WD, W0, evalOp, Nat.reduceEqDiff, Nat.reduceLT, ↓reduceIte, reduceCtorEq, hl, e0, e2, e3, e4, ol30]
      exact ⟨rfl, (by simp only [List.length_set, hl]), (by simp only [W0, Nat.reduceEqDiff, Nat.reduceLT, ↓reduceIte, hl, e0, e2, e3, e4]), (by simp only [W0, Nat.reduceEqDiff, Nat.reduceLT, ↓reduceIte, hl, e0, e2, e3, e4]), (by simp only [W0, Nat.reduceEqDiff, Nat.reduceLT, ↓reduceIte, hl, e0, e2, e3, e4]), (by simp only [W0, Nat.reduceEqDiff, Nat.reduceLT, ↓reduceIte, hl, e0, e2, e3, e4]), (by simp only [W0, Nat.reduceEqDiff, Nat.reduceLT, ↓reduceIte, hl, e0, e2, e3, e4])⟩) ?_
    rintro envg31 _ ⟨rfl, hl, e0, e2, e3, e4, e8⟩
    try simp only [↓WD, W0, evalOp, Nat.reduceEqDiff, Nat.reduceLT, ↓reduceIte, reduceCtorEq, hl, e0, e2, e3, e4, e8]
    refine CondK_dec (fun c33 => ?_) (fun c33 => ?_)
    · rw [if_pos c33] at wr46
      try simp only [↓WD, W0, evalOp, Nat.reduceEqDiff, Nat.reduceLT, ↓reduceIte, reduceCtorEq, hl, e0, e2, e3, e4, e8]
      rw [AW_region]
      obtain ⟨x34, qx34, wr46⟩ := obind wr46
      obtain ⟨i35, off36, oi37, hp38⟩ := RO.addr (P := Try.prog) sl_52 (S29.ro hun_) qx34
      have ol39 := RO.ld (P := Try.prog) (S29.ro hun_) hp38 qx34 (t := 3) (o := 0) (v := .int .i64 x34) (by omega) (by simp only [apart, ag_3, sz_3]; rfl)
      simp only [Nat.add_zero] at ol39
      have oc40 := fun g : AH => aconv_int (P := Try.prog) (h := g) (n := x34) (k' := .i64) Try.underlying3 Try.underlying25
      obtain ⟨y41, qy41, wr46⟩ := obind wr46
      have og42 := fun (D : Drawn) (n : Nat) (g : AH) => call_hook (P := Try.prog) (D := D) k19 n (args := [.int .u64 (IntKind.u64.wrap x34), .int .i64 8]) (v := .str y41) ((kf_19_eq (IntKind.u64.wrap x34) 8).trans (by rw [qy41]; rfl)) g
      obtain ⟨s43, qs43, wr46⟩ := obind wr46
      have os43 := cat_str qs43
      refine AE_joinR (fun e h' => h28 = h' ∧ e.length = 21 ∧ e.getD 0 .undef = un_ ∧ e.getD 2 .undef = .ptr i1 0 ∧ e.getD 3 .undef = .str s43 ∧ e.getD 4 .undef = .int .i64 s.2) (by
        simp only [↓WE, WA, WL, aop, ofValue, ofCell, isConst, abin, acall1, abuiltin, aun, AV.cells, AV.one, Nat.reduceAdd, Int.reduceLT, Int.reduceLE, ↓WD, W0, evalOp, Nat.reduceEqDiff, Nat.reduceLT, ↓reduceIte, reduceCtorEq, hl, e0, e2, e3, e4, e8, oi37, ol39, oc40, og42, os43]
        exact ⟨rfl, (by simp only [List.length_set, hl]), (by simp only [W0, Nat.reduceEqDiff, Nat.reduceLT, ↓reduceIte, hl, e0, e2, e3, e4, e8]), (by simp only [W0, Nat.reduceEqDiff, Nat.reduceLT, ↓reduceIte, hl, e0, e2, e3, e4, e8]), (by simp only [W0, Nat.reduceEqDiff, Nat.reduceLT, ↓reduceIte, hl, e0, e2, e3, e4, e8]), (by simp only [W0, Nat.reduceEqDiff, Nat.reduceLT, ↓reduceIte, hl, e0, e2, e3, e4, e8])⟩) ?_
      rintro envg44 _ ⟨rfl, hl, e0, e2, e3, e4⟩
      try simp only [↓WD, W0, evalOp, Nat.reduceEqDiff, Nat.reduceLT, ↓reduceIte, reduceCtorEq, hl, e0, e2, e3, e4]
      rw [AW_region]
      refine AE_joinR (fun e h' => h28 = h' ∧ e.length = 21 ∧ e.getD 0 .undef = un_ ∧ e.getD 2 .undef = .ptr i1 0 ∧ e.getD 3 .undef = .str s43 ∧ e.getD 4 .undef = .int .i64 (IntKind.i64.wrap (s.2 + 1))) (by
        simp only [↓WE, WA, WL, aop, ofValue, ofCell, isConst, abin, acall1, abuiltin, aun, AV.cells, AV.one, Nat.reduceAdd, Int.reduceLT, Int.reduceLE, ↓WD, W0, evalOp, Nat.reduceEqDiff, Nat.reduceLT, ↓reduceIte, reduceCtorEq, hl, e0, e2, e3, e4]
        exact ⟨rfl, (by simp only [List.length_set, hl]), (by simp only [W0, Nat.reduceEqDiff, Nat.reduceLT, ↓reduceIte, hl, e0, e2, e3, e4]), (by simp only [W0, Nat.reduceEqDiff, Nat.reduceLT, ↓reduceIte, hl, e0, e2, e3, e4]), (by simp only [W0, Nat.reduceEqDiff, Nat.reduceLT, ↓reduceIte, hl, e0, e2, e3, e4]), (by simp only [W0, Nat.reduceEqDiff, Nat.reduceLT, ↓reduceIte, hl, e0, e2, e3, e4])⟩) ?_
      rintro envg45 _ ⟨rfl, hl, e0, e2, e3, e4⟩
      try simp only [↓WD, W0, evalOp, Nat.reduceEqDiff, Nat.reduceLT, ↓reduceIte, reduceCtorEq, hl, e0, e2, e3, e4]
      obtain rfl := Option.some.inj wr46
      rw [KP_nil, QL_normal]
      exact ⟨_, rfl, (by simp only [List.length_set, hl]), (by simp only [W0, Nat.reduceEqDiff, Nat.reduceLT, ↓reduceIte, hl, e0, e2, e3, e4]), (by simp only [W0, Nat.reduceEqDiff, Nat.reduceLT, ↓reduceIte, hl, e0, e2, e3, e4]), (by simp only [W0, Nat.reduceEqDiff, Nat.reduceLT, ↓reduceIte, hl, e0, e2, e3, e4]), (by simp only [W0, Nat.reduceEqDiff, Nat.reduceLT, ↓reduceIte, hl, e0, e2, e3, e4]), S29⟩
    · rw [if_neg c33] at wr46
      try simp only [↓WD, W0, evalOp, Nat.reduceEqDiff, Nat.reduceLT, ↓reduceIte, reduceCtorEq, hl, e0, e2, e3, e4, e8]
      obtain rfl := Option.some.inj wr46
      rw [KP_nil, QL_exit]
      exact ⟨_, rfl, rfl, (by simp only [List.length_set, hl]), (by simp only [W0, Nat.reduceEqDiff, Nat.reduceLT, ↓reduceIte, hl, e0, e2, e3, e4, e8]), (by simp only [W0, Nat.reduceEqDiff, Nat.reduceLT, ↓reduceIte, hl, e0, e2, e3, e4, e8]), S29⟩
  · exact ⟨(by simp only [List.length_set, hl]), (by simp only [W0, Nat.reduceEqDiff, Nat.reduceLT, ↓reduceIte, hl, e0, e2, e3, e4]), (by simp only [W0, Nat.reduceEqDiff, Nat.reduceLT, ↓reduceIte, hl, e0, e2, e3, e4]), (by simp only [W0, Nat.reduceEqDiff, Nat.reduceLT, ↓reduceIte, hl, e0, e2, e3, e4]), (by simp only [W0, Nat.reduceEqDiff, Nat.reduceLT, ↓reduceIte, hl, e0, e2, e3, e4]), S6⟩
  · rintro x envr46 h47 ⟨rfl, hl, e2, e3, S48⟩
    try simp only [↓WD, W0, evalOp, Nat.reduceEqDiff, Nat.reduceLT, ↓reduceIte, reduceCtorEq, hl, e2, e3]
    rw [AW_region]
    obtain ⟨h49, os50, S51⟩ := S48.store (P := Try.prog) 0 rfl (t := 47) (off := 0) (v := .agg [.int .i64 1, .str r46]) (c' := [.int .i64 1, .str r46]) rfl sz_47 rfl (by simp) rfl
    have S52 : Sep h [] h49 [.blk i1 [.int .i64 1, .str r46] 47] := S51
    refine AE_joinR (fun e h' => h49 = h' ∧ e.length = 21 ∧ e.getD 2 .undef = .ptr i1 0) (by
      simp only [↓WE, WA, WL, aop, ofValue, ofCell, isConst, abin, acall1, abuiltin, aun, AV.cells, AV.one, Nat.reduceAdd, Int.reduceLT, Int.reduceLE, ↓WD, W0, evalOp, Nat.reduceEqDiff, Nat.reduceLT, ↓reduceIte, reduceCtorEq, hl, e2, e3, bd_47_0_1, os50]
      exact ⟨rfl, (by simp only [List.length_set, hl]), (by simp only [W0, Nat.reduceEqDiff, Nat.reduceLT, ↓reduceIte, hl, e2, e3])⟩) ?_
    rintro envg53 _ ⟨rfl, hl, e2⟩
    try simp only [↓WD, W0, evalOp, Nat.reduceEqDiff, Nat.reduceLT, ↓reduceIte, reduceCtorEq, hl, e2]
    have ol54 := S52.load (P := Try.prog) 0 rfl (t := 47) (off := 0) (v := .agg [.int .i64 1, .str r46]) (by simp only [apart, ag_47, sz_47]; rfl)
    refine KP_ret (vs := [.agg [.int .i64 1, .str r46]]) (by simp only [aresults, aresult, gs, List.length_set, Nat.reduceEqDiff, Nat.reduceLT, ↓reduceIte, hl, e2, ol54]) ?_
    obtain rfl := Option.some.inj hF
    exact ⟨rfl, S52.pick [] (by decide) rfl⟩
set_option maxRecDepth 100000 in
set_option maxHeartbeats 4000000 in
theorem W_law17_ExtraResolves {K : PureK} (k13 : K 13 = some kf_13) (k15 : K 15 = some kf_15) (k16 : K 16 = some kf_16) (k18 : K 18 = some kf_18) (k19 : K 19 = some kf_19) (k47 : K 47 = some kf_47) (k53 : K 53 = some kf_53) (k77 : K 77 = some hb77) (n20 : K 20 = none) (n21 : K 21 = none) (n24 : K 24 = none) (n25 : K 25 = none) (n26 : K 26 = none) (n28 : K 28 = none) (n29 : K 29 = none) (n30 : K 30 = none) (n31 : K 31 = none) (n50 : K 50 = none) (n51 : K 51 = none) (n52 : K 52 = none) (n69 : K 69 = none) (n6 : K 6 = none) (m : Nat) (hm : NF + 6 ≤ m) (h : AH) (ul : AV) (l : List Gapi_Extra) (hul : RO 2 ul h (l.map Gapi_Extra.cells)) (n_0 n_1 n_2 : Int) (uv : AV) (v : List Int) (huv : RO 1 uv h (v.map (cellI .i64))) {r : Bool} (hF : F_law17_ExtraResolves l [n_0, n_1, n_2] v = some r) :
    AR (acall Try.prog (hooksOf K) (drawnOf Try.prog (tabOf K)) m 6 [ul, .agg [.int .u32 n_0, .int .u32 n_1, .int .u32 n_2], uv] h) (fun v h' => v = .bool r ∧ Sep h [] h' []) := by
  obtain ⟨m, rfl⟩ : ∃ k, m = k + 1 := ⟨m - 1, by omega⟩
  refine AR_call (hooksOf_none n6) Try.func6 rfl _ _ fun env hl he => ?_
  have e0 := he 0
  have e1 := he 1
  have e2 := he 2
  simp only [List.getD_cons_zero, List.getD_cons_succ] at e0 e1 e2
  simp only [Try.f6] at hl ⊢
  simp only [List.length_cons, List.length_nil, Nat.reduceAdd, Nat.reduceSub] at hl
  clear he
  have S0 : Sep h [] h [] := Sep.nil h
  rw [F_law17_ExtraResolves] at hF
  try simp only [↓WD, W0, evalOp, Nat.reduceEqDiff, Nat.reduceLT, ↓reduceIte, reduceCtorEq, hl, e0, e1, e2]
  rw [AW_region]
  obtain ⟨i1, h2, oa3, S4⟩ := S0.alloc 51 [.int .u32 n_0, .int .u32 n_1, .int .u32 n_2]
  have S6 : Sep h [] h2 [.blk i1 ([n_0, n_1, n_2].map (AV.int .u32)) 51] := S4
  refine AE_joinR (fun e h' => h2 = h' ∧ e.length = 72 ∧ e.getD 0 .undef = ul ∧ e.getD 2 .undef = uv ∧ e.getD 4 .undef = .ptr i1 0) (by
    simp only [↓WE, WA, WL, aop, ofValue, ofCell, isConst, abin, acall1, abuiltin, aun, AV.cells, AV.one, Nat.reduceAdd, Int.reduceLT, Int.reduceLE, ↓WD, W0, evalOp, Nat.reduceEqDiff, Nat.reduceLT, ↓reduceIte, reduceCtorEq, hl, e0, e1, e2, oa3]
    exact ⟨rfl, (by simp only [List.length_set, hl]), (by simp only [W0, Nat.reduceEqDiff, Nat.reduceLT, ↓reduceIte, hl, e0, e1, e2]), (by simp only [W0, Nat.reduceEqDiff, Nat.reduceLT, ↓reduceIte, hl, e0, e1, e2]), (by simp only [W0, Nat.reduceEqDiff, Nat.reduceLT, ↓reduceIte, hl, e0, e1, e2])⟩) ?_
  rintro envg7 _ ⟨rfl, hl, e0, e2, e4⟩
  try simp only [↓WD, W0, evalOp, Nat.reduceEqDiff, Nat.reduceLT, ↓reduceIte, reduceCtorEq, hl, e0, e2, e4]
  rw [AW_region]
  obtain ⟨y8, qy8, hF⟩ := obind hF
  obtain ⟨v12, h10, og9, rfl, S11⟩ := (W_law17_awake k13 k15 k16 k18 k47 k77 n21 n24 n26 n28 n30 n50 n51 n52 n69 n20 m (by omega) h2  qy8).out
  have S13 : Sep h [] h10 [.blk i1 ([n_0, n_1, n_2].map (AV.int .u32)) 51] := S6.call0 S11
  refine AE_joinR (fun e h' => h10 = h' ∧ e.length = 72 ∧ e.getD 0 .undef = ul ∧ e.getD 2 .undef = uv ∧ e.getD 4 .undef = .ptr i1 0 ∧ e.getD 15 .undef = .bool !y8) (by
    simp only [↓WE, WA, WL, aop, ofValue, ofCell, isConst, abin, acall1, abuiltin, aun, AV.cells, AV.one, Nat.reduceAdd, Int.reduceLT, Int.reduceLE, ↓WD, W0, evalOp, Nat.reduceEqDiff, Nat.reduceLT, ↓reduceIte, reduceCtorEq, hl, e0, e2, e4, og9]
    exact ⟨rfl, (by simp only [List.length_set, hl]), (by simp only [W0, Nat.reduceEqDiff, Nat.reduceLT, ↓reduceIte, hl, e0, e2, e4]), (by simp only [W0, Nat.reduceEqDiff, Nat.reduceLT, ↓reduceIte, hl, e0, e2, e4]), (by simp only [W0, Nat.reduceEqDiff, Nat.reduceLT, ↓reduceIte, hl, e0, e2, e4]), (by simp only [W0, Nat.reduceEqDiff, Nat.reduceLT, ↓reduceIte, hl, e0, e2, e4])⟩) ?_
  rintro envg14 _ ⟨rfl, hl, e0, e2, e4, e15⟩
  try simp only [↓WD, W0, evalOp, Nat.reduceEqDiff, Nat.reduceLT, ↓reduceIte, reduceCtorEq, hl, e0, e2, e4, e15]
  refine CondK_boo (fun c17 => ?_) (fun c17 => ?_)
  · rw [if_pos c17] at hF
    try simp only [↓WD, W0, evalOp, Nat.reduceEqDiff, Nat.reduceLT, ↓reduceIte, reduceCtorEq, hl, e0, e2, e4, e15]
    rw [AW_region]
    refine AE_joinR (fun e h' => h10 = h' ∧ e.length = 72 ∧ e.getD 6 .undef = .bool false) (by
      simp only [↓WE, WA, WL, aop, ofValue, ofCell, isConst, abin, acall1, abuiltin, aun, AV.cells, AV.one, Nat.reduceAdd, Int.reduceLT, Int.reduceLE, ↓WD, W0, evalOp, Nat.reduceEqDiff, Nat.reduceLT, ↓reduceIte, reduceCtorEq, hl, e0, e2, e4, e15]
      exact ⟨rfl, (by simp only [List.length_set, hl]), (by simp only [W0, Nat.reduceEqDiff, Nat.reduceLT, ↓reduceIte, hl, e0, e2, e4, e15])⟩) ?_
    rintro envg18 _ ⟨rfl, hl, e6⟩
    try simp only [↓WD, W0, evalOp, Nat.reduceEqDiff, Nat.reduceLT, ↓reduceIte, reduceCtorEq, hl, e6]
    refine KP_ret (vs := [.bool false]) (by simp only [aresults, aresult, gs, List.length_set, Nat.reduceEqDiff, Nat.reduceLT, ↓reduceIte, hl, e6]) ?_
    obtain rfl := Option.some.inj hF
    exact ⟨rfl, S13.pick [] (by decide) rfl⟩
  · rw [if_neg (nf c17)] at hF
    try simp only [↓WD, W0, evalOp, Nat.reduceEqDiff, Nat.reduceLT, ↓reduceIte, reduceCtorEq, hl, e0, e2, e4, e15]
    rw [AW_region]
    obtain ⟨j24, qj24, hF⟩ := obind hF
    refine AE_joinR (fun e h' => e.length = 72 ∧ e.getD 0 .undef = ul ∧ e.getD 2 .undef = uv ∧ e.getD 4 .undef = .ptr i1 0 ∧ e.getD 23 .undef = .bool j24 ∧ Sep h [] h' [.blk i1 ([n_0, n_1, n_2].map (AV.int .u32)) 51]) ?_ ?_
    · have ol19 := RO.len (P := Try.prog) sl_35 (S13.ro hul)
      rw [List.length_map] at ol19
      simp only [↓WE, WA, WL, aop, ofValue, ofCell, isConst, abin, acall1, abuiltin, aun, AV.cells, AV.one, Nat.reduceAdd, Int.reduceLT, Int.reduceLE, ↓WD, W0, evalOp, Nat.reduceEqDiff, Nat.reduceLT, ↓reduceIte, reduceCtorEq, hl, e0, e2, e4, e15, ol19]
      refine GuardW_dec (fun c20 => ?_) (fun c20 => ?_)
      · rw [if_pos c20] at qj24
        have d21 : (decide ((l.length : Int) > 10)) = true := decide_eq_true c20
        simp only [↓WE, WA, WL, aop, ofValue, ofCell, isConst, abin, acall1, abuiltin, aun, AV.cells, AV.one, Nat.reduceAdd, Int.reduceLT, Int.reduceLE, ↓WD, W0, evalOp, Nat.reduceEqDiff, Nat.reduceLT, ↓reduceIte, reduceCtorEq, hl, e0, e2, e4, e15, ol19, d21]
        obtain rfl := Option.some.inj qj24
        exact ⟨(by simp only [List.length_set, hl]), (by simp only [W0, Nat.reduceEqDiff, Nat.reduceLT, ↓reduceIte, hl, e0, e2, e4, e15]), (by simp only [W0, Nat.reduceEqDiff, Nat.reduceLT, ↓reduceIte, hl, e0, e2, e4, e15]), (by simp only [W0, Nat.reduceEqDiff, Nat.reduceLT, ↓reduceIte, hl, e0, e2, e4, e15]), (by simp only [W0, Nat.reduceEqDiff, Nat.reduceLT, ↓reduceIte, hl, e0, e2, e4, e15]), S13⟩
      · rw [if_neg c20] at qj24
        have d22 : (decide ((l.length : Int) > 10)) = false := decide_eq_false c20
        have ol23 := RO.len (P := Try.prog) sl_52 (S13.ro huv)
        rw [List.length_map] at ol23
        simp only [↓WE, WA, WL, aop, ofValue, ofCell, isConst, abin, acall1, abuiltin, aun, AV.cells, AV.one, Nat.reduceAdd, Int.reduceLT, Int.reduceLE, ↓WD, W0, evalOp, Nat.reduceEqDiff, Nat.reduceLT, ↓reduceIte, reduceCtorEq, hl, e0, e2, e4, e15, ol19, ol23, d22]
        obtain rfl := Option.some.inj qj24
        exact ⟨(by simp only [List.length_set, hl]), (by simp only [W0, Nat.reduceEqDiff, Nat.reduceLT, ↓reduceIte, hl, e0, e2, e4, e15]), (by simp only [W0, Nat.reduceEqDiff, Nat.reduceLT, ↓reduceIte, hl, e0, e2, e4, e15]), (by simp only [W0, Nat.reduceEqDiff, Nat.reduceLT, ↓reduceIte, hl, e0, e2, e4, e15]), (by simp only [W0, Nat.reduceEqDiff, Nat.reduceLT, ↓reduceIte, hl, e0, e2, e4, e15]), S13⟩
    · rintro envj24 h26 ⟨hl, e0, e2, e4, e23, S25⟩
      try simp only [↓WD, W0, evalOp, Nat.reduceEqDiff, Nat.reduceLT, ↓reduceIte, reduceCtorEq, hl, e0, e2, e4, e23]
      refine CondK_boo (fun c29 => ?_) (fun c29 => ?_)
      · rw [if_pos c29] at hF
        try simp only [↓WD, W0, evalOp, Nat.reduceEqDiff, Nat.reduceLT, ↓reduceIte, reduceCtorEq, hl, e0, e2, e4, e23]
        rw [AW_region]
        refine AE_joinR (fun e h' => h26 = h' ∧ e.length = 72 ∧ e.getD 6 .undef = .bool true) (by
          simp only [↓WE, WA, WL, aop, ofValue, ofCell, isConst, abin, acall1, abuiltin, aun, AV.cells, AV.one, Nat.reduceAdd, Int.reduceLT, Int.reduceLE, ↓WD, W0, evalOp, Nat.reduceEqDiff, Nat.reduceLT, ↓reduceIte, reduceCtorEq, hl, e0, e2, e4, e23]
          exact ⟨rfl, (by simp only [List.length_set, hl]), (by simp only [W0, Nat.reduceEqDiff, Nat.reduceLT, ↓reduceIte, hl, e0, e2, e4, e23])⟩) ?_
        rintro envg30 _ ⟨rfl, hl, e6⟩
        try simp only [↓WD, W0, evalOp, Nat.reduceEqDiff, Nat.reduceLT, ↓reduceIte, reduceCtorEq, hl, e6]
        refine KP_ret (vs := [.bool true]) (by simp only [aresults, aresult, gs, List.length_set, Nat.reduceEqDiff, Nat.reduceLT, ↓reduceIte, hl, e6]) ?_
        obtain rfl := Option.some.inj hF
        exact ⟨rfl, S25.pick [] (by decide) rfl⟩
      · rw [if_neg (nf c29)] at hF
        try simp only [↓WD, W0, evalOp, Nat.reduceEqDiff, Nat.reduceLT, ↓reduceIte, reduceCtorEq, hl, e0, e2, e4, e23]
        rw [AW_region]
        have ol31 := RO.len (P := Try.prog) sl_35 (S25.ro hul)
        rw [List.length_map] at ol31
        refine AE_joinR (fun e h' => h26 = h' ∧ e.length = 72 ∧ e.getD 0 .undef = ul ∧ e.getD 2 .undef = uv ∧ e.getD 4 .undef = .ptr i1 0 ∧ e.getD 24 .undef = ul ∧ e.getD 25 .undef = .int .i64 (l.length : Int) ∧ e.getD 26 .undef = .int .i64 0) (by
          simp only [↓WE, WA, WL, aop, ofValue, ofCell, isConst, abin, acall1, abuiltin, aun, AV.cells, AV.one, Nat.reduceAdd, Int.reduceLT, Int.reduceLE, ↓WD, W0, evalOp, Nat.reduceEqDiff, Nat.reduceLT, ↓reduceIte, reduceCtorEq, hl, e0, e2, e4, e23, ol31]
          exact ⟨rfl, (by simp only [List.length_set, hl]), (by simp only [W0, Nat.reduceEqDiff, Nat.reduceLT, ↓reduceIte, hl, e0, e2, e4, e23]), (by simp only [W0, Nat.reduceEqDiff, Nat.reduceLT, ↓reduceIte, hl, e0, e2, e4, e23]), (by simp only [W0, Nat.reduceEqDiff, Nat.reduceLT, ↓reduceIte, hl, e0, e2, e4, e23]), (by simp only [W0, Nat.reduceEqDiff, Nat.reduceLT, ↓reduceIte, hl, e0, e2, e4, e23]), (by simp only [W0, Nat.reduceEqDiff, Nat.reduceLT, ↓reduceIte, hl, e0, e2, e4, e23]), (by simp only [W0, Nat.reduceEqDiff, Nat.reduceLT, ↓reduceIte, hl, e0, e2, e4, e23])⟩) ?_
        rintro envg32 _ ⟨rfl, hl, e0, e2, e4, e24, e25, e26⟩
        try simp only [↓WD, W0, evalOp, Nat.reduceEqDiff, Nat.reduceLT, ↓reduceIte, reduceCtorEq, hl, e0, e2, e4, e24, e25, e26]
        obtain ⟨r93, qr93, hF⟩ := obind hF
        refine AW_lift (L_law17_ExtraResolves_1 l) (fun s e h' => e.length = 72 ∧ e.getD 0 .undef = ul ∧ e.getD 2 .undef = uv ∧ e.getD 4 .undef = .ptr i1 0 ∧ e.getD 24 .undef = ul ∧ e.getD 25 .undef = .int .i64 (l.length : Int) ∧ e.getD 26 .undef = .int .i64 s ∧ Sep h [] h' [.blk i1 ([n_0, n_1, n_2].map (AV.int .u32)) 51]) (fun r93 x e h' => (∃ (t94 : Unit), r93 = (.inl t94) ∧ x = .exit 0 ∧ e.length = 72 ∧ e.getD 0 .undef = ul ∧ e.getD 2 .undef = uv ∧ e.getD 4 .undef = .ptr i1 0 ∧ Sep h [] h' [.blk i1 ([n_0, n_1, n_2].map (AV.int .u32)) 51]) ∨ (∃ (t97 : Unit), r93 = (.inr t97) ∧ x = .ret ∧ e.length = 72 ∧ e.getD 6 .undef = .bool true ∧ Sep h [] h' [])) qr93 (by omega) ?_ ?_ ?_
        · rintro s envr93 h63 or93 ⟨hl, e0, e2, e4, e24, e25, e26, S64⟩ wr93
          rw [L_law17_ExtraResolves_1] at wr93
          try simp only [↓WD, W0, evalOp, Nat.reduceEqDiff, Nat.reduceLT, ↓reduceIte, reduceCtorEq, hl, e0, e2, e4, e24, e25, e26]
          rw [AW_region]
          refine AE_joinR (fun e h' => h63 = h' ∧ e.length = 72 ∧ e.getD 0 .undef = ul ∧ e.getD 2 .undef = uv ∧ e.getD 4 .undef = .ptr i1 0 ∧ e.getD 24 .undef = ul ∧ e.getD 25 .undef = .int .i64 (l.length : Int) ∧ e.getD 26 .undef = .int .i64 s ∧ e.getD 27 .undef = .bool (decide (s < (l.length : Int)))) (by
            simp only [↓WE, WA, WL, aop, ofValue, ofCell, isConst, abin, acall1, abuiltin, aun, AV.cells, AV.one, Nat.reduceAdd, Int.reduceLT, Int.reduceLE, ↓WD, W0, evalOp, Nat.reduceEqDiff, Nat.reduceLT, ↓reduceIte, reduceCtorEq, hl, e0, e2, e4, e24, e25, e26]
            exact ⟨rfl, (by simp only [List.length_set, hl]), (by simp only [W0, Nat.reduceEqDiff, Nat.reduceLT, ↓reduceIte, hl, e0, e2, e4, e24, e25, e26]), (by simp only [W0, Nat.reduceEqDiff, Nat.reduceLT, ↓reduceIte, hl, e0, e2, e4, e24, e25, e26]), (by simp only [W0, Nat.reduceEqDiff, Nat.reduceLT, ↓reduceIte, hl, e0, e2, e4, e24, e25, e26]), (by simp only [W0, Nat.reduceEqDiff, Nat.reduceLT, ↓reduceIte, hl, e0, e2, e4, e24, e25, e26]), (by simp only [W0, Nat.reduceEqDiff, Nat.reduceLT, ↓reduceIte, hl, e0, e2, e4, e24, e25, e26]), (by simp only [W0, Nat.reduceEqDiff, Nat.reduceLT, ↓reduceIte, hl, e0, e2, e4, e24, e25, e26]), (by simp only [W0, Nat.reduceEqDiff, Nat.reduceLT, ↓reduceIte, hl, e0, e2, e4, e24, e25, e26])⟩) ?_
          rintro envg65 _ ⟨rfl, hl, e0, e2, e4, e24, e25, e26, e27⟩
          try simp only [↓WD, W0, evalOp, Nat.reduceEqDiff, Nat.reduceLT, ↓reduceIte, reduceCtorEq, hl, e0, e2, e4, e24, e25, e26, e27]
          refine CondK_dec (fun c67 => ?_) (fun c67 => ?_)
          · rw [if_pos c67] at wr93
            try simp only [↓WD, W0, evalOp, Nat.reduceEqDiff, Nat.reduceLT, ↓reduceIte, reduceCtorEq, hl, e0, e2, e4, e24, e25, e26, e27]
            rw [AW_region]
            obtain ⟨x68, qx68, wr93⟩ := obind wr93
            obtain ⟨i69, off70, oi71, hp72⟩ := RO.addr (P := Try.prog) sl_35 (S64.ro hul) qx68
            have ol73 := RO.ld (P := Try.prog) (S64.ro hul) hp72 qx68 (t := 47) (o := 0) (v := .agg [.int .i64 x68.xID, .str x68.xData]) (by omega) (by simp only [apart, ag_47, sz_47]; rfl)
            simp only [Nat.add_zero] at ol73
            obtain ⟨i74, h75, oa76, S77⟩ := S64.alloc 47 [.int .i64 0, .str []]
            have S79 : Sep h [] h75 [.blk i1 ([n_0, n_1, n_2].map (AV.int .u32)) 51, .blk i74 [.int .i64 0, .str []] 47] := S77
            obtain ⟨h80, os81, S82⟩ := S79.store (P := Try.prog) 1 rfl (t := 47) (off := 0) (v := .agg [.int .i64 x68.xID, .str x68.xData]) (c' := [.int .i64 x68.xID, .str x68.xData]) rfl sz_47 rfl (by simp) rfl
            have S83 : Sep h [] h80 [.blk i1 ([n_0, n_1, n_2].map (AV.int .u32)) 51, .blk i74 [.int .i64 x68.xID, .str x68.xData] 47] := S82
            refine AE_joinR (fun e h' => h80 = h' ∧ e.length = 72 ∧ e.getD 0 .undef = ul ∧ e.getD 2 .undef = uv ∧ e.getD 4 .undef = .ptr i1 0 ∧ e.getD 8 .undef = .ptr i74 0 ∧ e.getD 24 .undef = ul ∧ e.getD 25 .undef = .int .i64 (l.length : Int) ∧ e.getD 26 .undef = .int .i64 s) (by
              simp only [↓WE, WA, WL, aop, ofValue, ofCell, isConst, abin, acall1, abuiltin, aun, AV.cells, AV.one, Nat.reduceAdd, Int.reduceLT, Int.reduceLE, ↓WD, W0, evalOp, Nat.reduceEqDiff, Nat.reduceLT, ↓reduceIte, reduceCtorEq, hl, e0, e2, e4, e24, e25, e26, e27, oi71, ol73, zero_47, oa76, os81]
              exact ⟨rfl, (by simp only [List.length_set, hl]), (by simp only [W0, Nat.reduceEqDiff, Nat.reduceLT, ↓reduceIte, hl, e0, e2, e4, e24, e25, e26, e27]), (by simp only [W0, Nat.reduceEqDiff, Nat.reduceLT, ↓reduceIte, hl, e0, e2, e4, e24, e25, e26, e27]), (by simp only [W0, Nat.reduceEqDiff, Nat.reduceLT, ↓reduceIte, hl, e0, e2, e4, e24, e25, e26, e27]), (by simp only [W0, Nat.reduceEqDiff, Nat.reduceLT, ↓reduceIte, hl, e0, e2, e4, e24, e25, e26, e27]), (by simp only [W0, Nat.reduceEqDiff, Nat.reduceLT, ↓reduceIte, hl, e0, e2, e4, e24, e25, e26, e27]), (by simp only [W0, Nat.reduceEqDiff, Nat.reduceLT, ↓reduceIte, hl, e0, e2, e4, e24, e25, e26, e27]), (by simp only [W0, Nat.reduceEqDiff, Nat.reduceLT, ↓reduceIte, hl, e0, e2, e4, e24, e25, e26, e27])⟩) ?_
            rintro envg84 _ ⟨rfl, hl, e0, e2, e4, e8, e24, e25, e26⟩
            try simp only [↓WD, W0, evalOp, Nat.reduceEqDiff, Nat.reduceLT, ↓reduceIte, reduceCtorEq, hl, e0, e2, e4, e8, e24, e25, e26]
            rw [AW_region]
            have ol85 := S83.load (P := Try.prog) 1 rfl (t := 9) (off := 1) (v := .str x68.xData) (by simp only [apart, ag_9, sz_9]; rfl)
            have ol86 := fun g : AH => alen_str (P := Try.prog) (h := g) (l := x68.xData) Try.underlying9
            refine AE_joinR (fun e h' => h80 = h' ∧ e.length = 72 ∧ e.getD 0 .undef = ul ∧ e.getD 2 .undef = uv ∧ e.getD 4 .undef = .ptr i1 0 ∧ e.getD 24 .undef = ul ∧ e.getD 25 .undef = .int .i64 (l.length : Int) ∧ e.getD 26 .undef = .int .i64 s ∧ e.getD 33 .undef = .bool (decide ((x68.xData.length : Int) > 100))) (by
              simp only [↓WE, WA, WL, aop, ofValue, ofCell, isConst, abin, acall1, abuiltin, aun, AV.cells, AV.one, Nat.reduceAdd, Int.reduceLT, Int.reduceLE, ↓WD, W0, evalOp, Nat.reduceEqDiff, Nat.reduceLT, ↓reduceIte, reduceCtorEq, hl, e0, e2, e4, e8, e24, e25, e26, fa_47_1, ol85, ol86]
              exact ⟨rfl, (by simp only [List.length_set, hl]), (by simp only [W0, Nat.reduceEqDiff, Nat.reduceLT, ↓reduceIte, hl, e0, e2, e4, e8, e24, e25, e26]), (by simp only [W0, Nat.reduceEqDiff, Nat.reduceLT, ↓reduceIte, hl, e0, e2, e4, e8, e24, e25, e26]), (by simp only [W0, Nat.reduceEqDiff, Nat.reduceLT, ↓reduceIte, hl, e0, e2, e4, e8, e24, e25, e26]), (by simp only [W0, Nat.reduceEqDiff, Nat.reduceLT, ↓reduceIte, hl, e0, e2, e4, e8, e24, e25, e26]), (by simp only [W0, Nat.reduceEqDiff, Nat.reduceLT, ↓reduceIte, hl, e0, e2, e4, e8, e24, e25, e26]), (by simp only [W0, Nat.reduceEqDiff, Nat.reduceLT, ↓reduceIte, hl, e0, e2, e4, e8, e24, e25, e26]), (by simp only [W0, Nat.reduceEqDiff, Nat.reduceLT, ↓reduceIte, hl, e0, e2, e4, e8, e24, e25, e26])⟩) ?_
            rintro envg87 _ ⟨rfl, hl, e0, e2, e4, e24, e25, e26, e33⟩
            try simp only [↓WD, W0, evalOp, Nat.reduceEqDiff, Nat.reduceLT, ↓reduceIte, reduceCtorEq, hl, e0, e2, e4, e24, e25, e26, e33]
            refine CondK_dec (fun c90 => ?_) (fun c90 => ?_)
            · rw [if_pos c90] at wr93
              try simp only [↓WD, W0, evalOp, Nat.reduceEqDiff, Nat.reduceLT, ↓reduceIte, reduceCtorEq, hl, e0, e2, e4, e24, e25, e26, e33]
              rw [AW_region]
              refine AE_joinR (fun e h' => h80 = h' ∧ e.length = 72 ∧ e.getD 6 .undef = .bool true) (by
                simp only [↓WE, WA, WL, aop, ofValue, ofCell, isConst, abin, acall1, abuiltin, aun, AV.cells, AV.one, Nat.reduceAdd, Int.reduceLT, Int.reduceLE, ↓WD, W0, evalOp, Nat.reduceEqDiff, Nat.reduceLT, ↓reduceIte, reduceCtorEq, hl, e0, e2, e4, e24, e25, e26, e33]
                exact ⟨rfl, (by simp only [List.length_set, hl]), (by simp only [W0, Nat.reduceEqDiff, Nat.reduceLT, ↓reduceIte, hl, e0, e2, e4, e24, e25, e26, e33])⟩) ?_
              rintro envg91 _ ⟨rfl, hl, e6⟩
              try simp only [↓WD, W0, evalOp, Nat.reduceEqDiff, Nat.reduceLT, ↓reduceIte, reduceCtorEq, hl, e6]
              obtain rfl := Option.some.inj wr93
              rw [KP_nil, QL_ret]
              exact ⟨_, rfl, .inr (⟨_, rfl, rfl, (by simp only [List.length_set, hl]), (by simp only [W0, Nat.reduceEqDiff, Nat.reduceLT, ↓reduceIte, hl, e6]), S83.pick [] (by decide) rfl⟩)⟩
            · rw [if_neg c90] at wr93
              try simp only [↓WD, W0, evalOp, Nat.reduceEqDiff, Nat.reduceLT, ↓reduceIte, reduceCtorEq, hl, e0, e2, e4, e24, e25, e26, e33]
              rw [AW_region]
              refine AE_joinR (fun e h' => h80 = h' ∧ e.length = 72 ∧ e.getD 0 .undef = ul ∧ e.getD 2 .undef = uv ∧ e.getD 4 .undef = .ptr i1 0 ∧ e.getD 24 .undef = ul ∧ e.getD 25 .undef = .int .i64 (l.length : Int) ∧ e.getD 26 .undef = .int .i64 (IntKind.i64.wrap (s + 1))) (by
                simp only [↓WE, WA, WL, aop, ofValue, ofCell, isConst, abin, acall1, abuiltin, aun, AV.cells, AV.one, Nat.reduceAdd, Int.reduceLT, Int.reduceLE, ↓WD, W0, evalOp, Nat.reduceEqDiff, Nat.reduceLT, ↓reduceIte, reduceCtorEq, hl, e0, e2, e4, e24, e25, e26, e33]
                exact ⟨rfl, (by simp only [List.length_set, hl]), (by simp only [W0, Nat.reduceEqDiff, Nat.reduceLT, ↓reduceIte, hl, e0, e2, e4, e24, e25, e26, e33]), (by simp only [W0, Nat.reduceEqDiff, Nat.reduceLT, ↓reduceIte, hl, e0, e2, e4, e24, e25, e26, e33]), (by simp only [W0, Nat.reduceEqDiff, Nat.reduceLT, ↓reduceIte, hl, e0, e2, e4, e24, e25, e26, e33]), (by simp only [W0, Nat.reduceEqDiff, Nat.reduceLT, ↓reduceIte, hl, e0, e2, e4, e24, e25, e26, e33]), (by simp only [W0, Nat.reduceEqDiff, Nat.reduceLT, ↓reduceIte, hl, e0, e2, e4, e24, e25, e26, e33]), (by simp only [W0, Nat.reduceEqDiff, Nat.reduceLT, ↓reduceIte, hl, e0, e2, e4, e24, e25, e26, e33])⟩) ?_
              rintro envg92 _ ⟨rfl, hl, e0, e2, e4, e24, e25, e26⟩
              try simp only [↓WD, W0, evalOp, Nat.reduceEqDiff, Nat.reduceLT, ↓reduceIte, reduceCtorEq, hl, e0, e2, e4, e24, e25, e26]
              obtain rfl := Option.some.inj wr93
              rw [KP_nil, QL_normal]
              exact ⟨_, rfl, (by simp only [List.length_set, hl]), (by simp only [W0, Nat.reduceEqDiff, Nat.reduceLT, ↓reduceIte, hl, e0, e2, e4, e24, e25, e26]), (by simp only [W0, Nat.reduceEqDiff, Nat.reduceLT, ↓reduceIte, hl, e0, e2, e4, e24, e25, e26]), (by simp only [W0, Nat.reduceEqDiff, Nat.reduceLT, ↓reduceIte, hl, e0, e2, e4, e24, e25, e26]), (by simp only [W0, Nat.reduceEqDiff, Nat.reduceLT, ↓reduceIte, hl, e0, e2, e4, e24, e25, e26]), (by simp only [W0, Nat.reduceEqDiff, Nat.reduceLT, ↓reduceIte, hl, e0, e2, e4, e24, e25, e26]), (by simp only [W0, Nat.reduceEqDiff, Nat.reduceLT, ↓reduceIte, hl, e0, e2, e4, e24, e25, e26]), S83.pick [0] (by decide) rfl⟩
          · rw [if_neg c67] at wr93
            try simp only [↓WD, W0, evalOp, Nat.reduceEqDiff, Nat.reduceLT, ↓reduceIte, reduceCtorEq, hl, e0, e2, e4, e24, e25, e26, e27]
            obtain rfl := Option.some.inj wr93
            rw [KP_nil, QL_exit]
            exact ⟨_, rfl, .inl ⟨_, rfl, rfl, (by simp only [List.length_set, hl]), (by simp only [W0, Nat.reduceEqDiff, Nat.reduceLT, ↓reduceIte, hl, e0, e2, e4, e24, e25, e26, e27]), (by simp only [W0, Nat.reduceEqDiff, Nat.reduceLT, ↓reduceIte, hl, e0, e2, e4, e24, e25, e26, e27]), (by simp only [W0, Nat.reduceEqDiff, Nat.reduceLT, ↓reduceIte, hl, e0, e2, e4, e24, e25, e26, e27]), S64⟩⟩
        · exact ⟨(by simp only [List.length_set, hl]), (by simp only [W0, Nat.reduceEqDiff, Nat.reduceLT, ↓reduceIte, hl, e0, e2, e4, e24, e25, e26]), (by simp only [W0, Nat.reduceEqDiff, Nat.reduceLT, ↓reduceIte, hl, e0, e2, e4, e24, e25, e26]), (by simp only [W0, Nat.reduceEqDiff, Nat.reduceLT, ↓reduceIte, hl, e0, e2, e4, e24, e25, e26]), (by simp only [W0, Nat.reduceEqDiff, Nat.reduceLT, ↓reduceIte, hl, e0, e2, e4, e24, e25, e26]), (by simp only [W0, Nat.reduceEqDiff, Nat.reduceLT, ↓reduceIte, hl, e0, e2, e4, e24, e25, e26]), (by simp only [W0, Nat.reduceEqDiff, Nat.reduceLT, ↓reduceIte, hl, e0, e2, e4, e24, e25, e26]), S25⟩
        · intro x envr93 h95 hk
          rcases hk with ⟨t94, rfl, rfl, hl, e0, e2, e4, S96⟩ | ⟨t97, rfl, rfl, hl, e6, S99⟩
          · skip
            rw [sumK_inl] at hF
            try simp only [↓WD, W0, evalOp, Nat.reduceEqDiff, Nat.reduceLT, ↓reduceIte, reduceCtorEq, hl, e0, e2, e4]
            rw [AW_region]
            obtain ⟨_, q100, hF⟩ := obind hF
            have oi101 := ia_51 i1 0 .i64 (chkIdx_lo q100) (chkIdx_hi q100)
            obtain ⟨y103, qy103, hF⟩ := obind hF
            have ol102 := S96.load (P := Try.prog) 0 rfl (t := 33) (apart_idxA ag_33 qy103)
            have oc104 := fun g : AH => aconv_int (P := Try.prog) (h := g) (n := y103) (k' := .u32) Try.underlying33 Try.underlying3
            obtain ⟨_, q105, hF⟩ := obind hF
            have oi106 := ia_51 i1 0 .i64 (chkIdx_lo q105) (chkIdx_hi q105)
            obtain ⟨y108, qy108, hF⟩ := obind hF
            have ol107 := S96.load (P := Try.prog) 0 rfl (t := 33) (apart_idxA ag_33 qy108)
            have oc109 := fun g : AH => aconv_int (P := Try.prog) (h := g) (n := y108) (k' := .u32) Try.underlying33 Try.underlying3
            obtain ⟨_, q110, hF⟩ := obind hF
            have oi111 := ia_51 i1 0 .i64 (chkIdx_lo q110) (chkIdx_hi q110)
            obtain ⟨y113, qy113, hF⟩ := obind hF
            have ol112 := S96.load (P := Try.prog) 0 rfl (t := 33) (apart_idxA ag_33 qy113)
            have oc114 := fun g : AH => aconv_int (P := Try.prog) (h := g) (n := y113) (k' := .u32) Try.underlying33 Try.underlying3
            obtain ⟨i115, h116, oa117, S118⟩ := S96.alloc 53 [.int .i64 0, .int .i64 0, .int .i64 0]
            have S120 : Sep h [] h116 [.blk i1 ([n_0, n_1, n_2].map (AV.int .u32)) 51, .blk i115 ([0, 0, 0].map (AV.int .i64)) 53] := S118
            obtain ⟨_, q124, hF⟩ := obind hF
            obtain ⟨_, q125, hF⟩ := obind hF
            obtain ⟨h121, os122, S123⟩ := S120.storeAll (P := Try.prog) 1 rfl (t := 53) sz_53 q124 q125
            simp only [List.map_cons, List.map_nil] at os122
            have S126 : Sep h [] h121 [.blk i1 ([n_0, n_1, n_2].map (AV.int .u32)) 51, .blk i115 ([IntKind.i64.wrap y103, IntKind.i64.wrap y108, IntKind.i64.wrap y113].map (AV.int .i64)) 53] := S123
            refine AE_joinR (fun e h' => h121 = h' ∧ e.length = 72 ∧ e.getD 0 .undef = ul ∧ e.getD 2 .undef = uv ∧ e.getD 9 .undef = .ptr i115 0) (by
              simp only [↓WE, WA, WL, aop, ofValue, ofCell, isConst, abin, acall1, abuiltin, aun, AV.cells, AV.one, Nat.reduceAdd, Int.reduceLT, Int.reduceLE, ↓WD, W0, evalOp, Nat.reduceEqDiff, Nat.reduceLT, ↓reduceIte, reduceCtorEq, hl, e0, e2, e4, oi101, ol102, oc104, oi106, ol107, oc109, oi111, ol112, oc114, bd_53_0_1_2, zero_53, oa117, os122]
              exact ⟨rfl, (by simp only [List.length_set, hl]), (by simp only [W0, Nat.reduceEqDiff, Nat.reduceLT, ↓reduceIte, hl, e0, e2, e4]), (by simp only [W0, Nat.reduceEqDiff, Nat.reduceLT, ↓reduceIte, hl, e0, e2, e4]), (by simp only [W0, Nat.reduceEqDiff, Nat.reduceLT, ↓reduceIte, hl, e0, e2, e4])⟩) ?_
            rintro envg127 _ ⟨rfl, hl, e0, e2, e9⟩
            try simp only [↓WD, W0, evalOp, Nat.reduceEqDiff, Nat.reduceLT, ↓reduceIte, reduceCtorEq, hl, e0, e2, e9]
            rw [AW_region]
            obtain ⟨_, qol128, hF⟩ := obind hF
            have ol128 := S126.load (P := Try.prog) 1 rfl (t := 53) (apart_all ag_53 sz_53 qol128)
            simp only [List.map_cons, List.map_nil] at ol128
            obtain ⟨y129, qy129, hF⟩ := obind hF
            obtain ⟨v133, h131, og130, rfl, S132⟩ := (W_extra_Resolve k18 n24 n28 m (by omega) h121 ul l (S126.ro hul) (IntKind.i64.wrap y103) (IntKind.i64.wrap y108) (IntKind.i64.wrap y113) qy129).out
            have S134 : Sep h [] h131 [.blk i1 ([n_0, n_1, n_2].map (AV.int .u32)) 51, .blk i115 ([IntKind.i64.wrap y103, IntKind.i64.wrap y108, IntKind.i64.wrap y113].map (AV.int .i64)) 53] := S126.call0 S132
            obtain ⟨i135, h136, oa137, S138⟩ := S134.alloc 53 [.int .i64 0, .int .i64 0, .int .i64 0]
            have S140 : Sep h [] h136 [.blk i1 ([n_0, n_1, n_2].map (AV.int .u32)) 51, .blk i115 ([IntKind.i64.wrap y103, IntKind.i64.wrap y108, IntKind.i64.wrap y113].map (AV.int .i64)) 53, .blk i135 ([0, 0, 0].map (AV.int .i64)) 53] := S138
            obtain ⟨_, q144, hF⟩ := obind hF
            obtain ⟨_, q145, hF⟩ := obind hF
            obtain ⟨h141, os142, S143⟩ := S140.storeAll (P := Try.prog) 2 rfl (t := 53) sz_53 q144 q145
            have S146 : Sep h [] h141 [.blk i1 ([n_0, n_1, n_2].map (AV.int .u32)) 51, .blk i115 ([IntKind.i64.wrap y103, IntKind.i64.wrap y108, IntKind.i64.wrap y113].map (AV.int .i64)) 53, .blk i135 (y129.1.map (AV.int .i64)) 53] := S143
            refine AE_joinR (fun e h' => h141 = h' ∧ e.length = 72 ∧ e.getD 0 .undef = ul ∧ e.getD 2 .undef = uv ∧ e.getD 9 .undef = .ptr i115 0 ∧ e.getD 10 .undef = .ptr i135 0 ∧ e.getD 11 .undef = .int .i64 y129.2) (by
              simp only [↓WE, WA, WL, aop, ofValue, ofCell, isConst, abin, acall1, abuiltin, aun, AV.cells, AV.one, Nat.reduceAdd, Int.reduceLT, Int.reduceLE, ↓WD, W0, evalOp, Nat.reduceEqDiff, Nat.reduceLT, ↓reduceIte, reduceCtorEq, hl, e0, e2, e9, ol128, og130, zero_53, oa137, os142]
              exact ⟨rfl, (by simp only [List.length_set, hl]), (by simp only [W0, Nat.reduceEqDiff, Nat.reduceLT, ↓reduceIte, hl, e0, e2, e9]), (by simp only [W0, Nat.reduceEqDiff, Nat.reduceLT, ↓reduceIte, hl, e0, e2, e9]), (by simp only [W0, Nat.reduceEqDiff, Nat.reduceLT, ↓reduceIte, hl, e0, e2, e9]), (by simp only [W0, Nat.reduceEqDiff, Nat.reduceLT, ↓reduceIte, hl, e0, e2, e9]), (by simp only [W0, Nat.reduceEqDiff, Nat.reduceLT, ↓reduceIte, hl, e0, e2, e9])⟩) ?_
            rintro envg147 _ ⟨rfl, hl, e0, e2, e9, e10, e11⟩
            try simp only [↓WD, W0, evalOp, Nat.reduceEqDiff, Nat.reduceLT, ↓reduceIte, reduceCtorEq, hl, e0, e2, e9, e10, e11]
            rw [AW_region]
            obtain ⟨_, qol148, hF⟩ := obind hF
            have ol148 := S146.load (P := Try.prog) 1 rfl (t := 53) (apart_all ag_53 sz_53 qol148)
            simp only [List.map_cons, List.map_nil] at ol148
            obtain ⟨y149, qy149, hF⟩ := obind hF
            obtain ⟨v153, h151, og150, rfl, S152⟩ := (W_ref17_Resolve k53 n25 n29 m (by omega) h141 ul l (S146.ro hul) (IntKind.i64.wrap y103) (IntKind.i64.wrap y108) (IntKind.i64.wrap y113) qy149).out
            have S154 : Sep h [] h151 [.blk i1 ([n_0, n_1, n_2].map (AV.int .u32)) 51, .blk i115 ([IntKind.i64.wrap y103, IntKind.i64.wrap y108, IntKind.i64.wrap y113].map (AV.int .i64)) 53, .blk i135 (y129.1.map (AV.int .i64)) 53] := S146.call0 S152
            obtain ⟨i155, h156, oa157, S158⟩ := S154.alloc 53 [.int .i64 0, .int .i64 0, .int .i64 0]
            have S160 : Sep h [] h156 [.blk i1 ([n_0, n_1, n_2].map (AV.int .u32)) 51, .blk i115 ([IntKind.i64.wrap y103, IntKind.i64.wrap y108, IntKind.i64.wrap y113].map (AV.int .i64)) 53, .blk i135 (y129.1.map (AV.int .i64)) 53, .blk i155 ([0, 0, 0].map (AV.int .i64)) 53] := S158
            obtain ⟨_, q164, hF⟩ := obind hF
            obtain ⟨_, q165, hF⟩ := obind hF
            obtain ⟨h161, os162, S163⟩ := S160.storeAll (P := Try.prog) 3 rfl (t := 53) sz_53 q164 q165
            have S166 : Sep h [] h161 [.blk i1 ([n_0, n_1, n_2].map (AV.int .u32)) 51, .blk i115 ([IntKind.i64.wrap y103, IntKind.i64.wrap y108, IntKind.i64.wrap y113].map (AV.int .i64)) 53, .blk i135 (y129.1.map (AV.int .i64)) 53, .blk i155 (y149.1.map (AV.int .i64)) 53] := S163
            refine AE_joinR (fun e h' => h161 = h' ∧ e.length = 72 ∧ e.getD 2 .undef = uv ∧ e.getD 10 .undef = .ptr i135 0 ∧ e.getD 11 .undef = .int .i64 y129.2 ∧ e.getD 12 .undef = .ptr i155 0 ∧ e.getD 13 .undef = .int .i64 y149.2) (by
              simp only [↓WE, WA, WL, aop, ofValue, ofCell, isConst, abin, acall1, abuiltin, aun, AV.cells, AV.one, Nat.reduceAdd, Int.reduceLT, Int.reduceLE, ↓WD, W0, evalOp, Nat.reduceEqDiff, Nat.reduceLT, ↓reduceIte, reduceCtorEq, hl, e0, e2, e9, e10, e11, ol148, og150, zero_53, oa157, os162]
              exact ⟨rfl, (by simp only [List.length_set, hl]), (by simp only [W0, Nat.reduceEqDiff, Nat.reduceLT, ↓reduceIte, hl, e0, e2, e9, e10, e11]), (by simp only [W0, Nat.reduceEqDiff, Nat.reduceLT, ↓reduceIte, hl, e0, e2, e9, e10, e11]), (by simp only [W0, Nat.reduceEqDiff, Nat.reduceLT, ↓reduceIte, hl, e0, e2, e9, e10, e11]), (by simp only [W0, Nat.reduceEqDiff, Nat.reduceLT, ↓reduceIte, hl, e0, e2, e9, e10, e11]), (by simp only [W0, Nat.reduceEqDiff, Nat.reduceLT, ↓reduceIte, hl, e0, e2, e9, e10, e11])⟩) ?_
            rintro envg167 _ ⟨rfl, hl, e2, e10, e11, e12, e13⟩
            try simp only [↓WD, W0, evalOp, Nat.reduceEqDiff, Nat.reduceLT, ↓reduceIte, reduceCtorEq, hl, e2, e10, e11, e12, e13]
            rw [AW_region]
            obtain ⟨j191, qj191, hF⟩ := obind hF
            refine AE_joinR (fun e h' => e.length = 72 ∧ e.getD 6 .undef = .bool j191 ∧ Sep h [] h' []) ?_ ?_
            · obtain ⟨_, qol168, qj191⟩ := obind qj191
              have ol168 := S166.load (P := Try.prog) 2 rfl (t := 53) (apart_all ag_53 sz_53 qol168)
              obtain ⟨_, qol169, qj191⟩ := obind qj191
              have ol169 := S166.load (P := Try.prog) 3 rfl (t := 53) (apart_all ag_53 sz_53 qol169)
              obtain ⟨l170, ql170, qj191⟩ := obind qj191
              obtain ⟨l171, ql171, qj191⟩ := obind qj191
              have oe172 : aeqOp Try.prog .eql 53 false false (.agg (y129.1.map (AV.int .i64))) (.agg (y149.1.map (AV.int .i64))) = some (.bool (l170.1 == l171.1 && (l170.2.1 == l171.2.1 && (l170.2.2 == l171.2.2)))) := by
                rw [lit3_eq ql170, lit3_eq ql171]; exact eqa_53_eql l170.1 l171.1 l170.2.1 l171.2.1 l170.2.2 l171.2.2
              simp only [↓WE, WA, WL, aop, ofValue, ofCell, isConst, abin, acall1, abuiltin, aun, AV.cells, AV.one, Nat.reduceAdd, Int.reduceLT, Int.reduceLE, ↓WD, W0, evalOp, Nat.reduceEqDiff, Nat.reduceLT, ↓reduceIte, reduceCtorEq, hl, e2, e10, e11, e12, e13, ol168, ol169, oe172]
              refine GuardW_boo (fun c173 => ?_) (fun c173 => ?_)
              · rw [if_pos c173] at qj191
                have d174 := c173
                simp only [↓WE, WA, WL, aop, ofValue, ofCell, isConst, abin, acall1, abuiltin, aun, AV.cells, AV.one, Nat.reduceAdd, Int.reduceLT, Int.reduceLE, ↓WD, W0, evalOp, Nat.reduceEqDiff, Nat.reduceLT, ↓reduceIte, reduceCtorEq, hl, e2, e10, e11, e12, e13, ol168, ol169, oe172, d174]
                refine GuardW_boo (fun c176 => ?_) (fun c176 => ?_)
                · rw [if_pos c176] at qj191
                  have d177 := c176
                  obtain ⟨y179, qy179, qj191⟩ := obind qj191
                  obtain ⟨v183, h181, og180, rfl, S182⟩ := (W_extra_Wide k15 k77 n50 n52 n69 n30 m (by omega) h161 uv v (S166.ro huv) qy179).out
                  have S184 : Sep h [] h181 [.blk i1 ([n_0, n_1, n_2].map (AV.int .u32)) 51, .blk i115 ([IntKind.i64.wrap y103, IntKind.i64.wrap y108, IntKind.i64.wrap y113].map (AV.int .i64)) 53, .blk i135 (y129.1.map (AV.int .i64)) 53, .blk i155 (y149.1.map (AV.int .i64)) 53] := S166.call0 S182
                  obtain ⟨y185, qy185, qj191⟩ := obind qj191
                  obtain ⟨v189, h187, og186, rfl, S188⟩ := (W_ref17_Wide k19 n31 m (by omega) h181 uv v (S184.ro huv) qy185).out
                  have S190 : Sep h [] h187 [.blk i1 ([n_0, n_1, n_2].map (AV.int .u32)) 51, .blk i115 ([IntKind.i64.wrap y103, IntKind.i64.wrap y108, IntKind.i64.wrap y113].map (AV.int .i64)) 53, .blk i135 (y129.1.map (AV.int .i64)) 53, .blk i155 (y149.1.map (AV.int .i64)) 53] := S184.call0 S188
                  simp only [↓WE, WA, WL, aop, ofValue, ofCell, isConst, abin, acall1, abuiltin, aun, AV.cells, AV.one, Nat.reduceAdd, Int.reduceLT, Int.reduceLE, ↓WD, W0, evalOp, Nat.reduceEqDiff, Nat.reduceLT, ↓reduceIte, reduceCtorEq, hl, e2, e10, e11, e12, e13, ol168, ol169, oe172, og180, og186, eq_47_eql, d174, d177]
                  obtain rfl := Option.some.inj qj191
                  exact ⟨(by simp only [List.length_set, hl]), (by simp only [W0, Nat.reduceEqDiff, Nat.reduceLT, ↓reduceIte, hl, e2, e10, e11, e12, e13]), S190.pick [] (by decide) rfl⟩
                · rw [if_neg (nf c176)] at qj191
                  have d178 := c176
                  simp only [↓WE, WA, WL, aop, ofValue, ofCell, isConst, abin, acall1, abuiltin, aun, AV.cells, AV.one, Nat.reduceAdd, Int.reduceLT, Int.reduceLE, ↓WD, W0, evalOp, Nat.reduceEqDiff, Nat.reduceLT, ↓reduceIte, reduceCtorEq, hl, e2, e10, e11, e12, e13, ol168, ol169, oe172, d174, d178]
                  obtain rfl := Option.some.inj qj191
                  exact ⟨(by simp only [List.length_set, hl]), (by simp only [W0, Nat.reduceEqDiff, Nat.reduceLT, ↓reduceIte, hl, e2, e10, e11, e12, e13]), S166.pick [] (by decide) rfl⟩
              · rw [if_neg (nf c173)] at qj191
                have d175 := c173
                simp only [↓WE, WA, WL, aop, ofValue, ofCell, isConst, abin, acall1, abuiltin, aun, AV.cells, AV.one, Nat.reduceAdd, Int.reduceLT, Int.reduceLE, ↓WD, W0, evalOp, Nat.reduceEqDiff, Nat.reduceLT, ↓reduceIte, reduceCtorEq, hl, e2, e10, e11, e12, e13, ol168, ol169, oe172, d175]
                obtain rfl := Option.some.inj qj191
                exact ⟨(by simp only [List.length_set, hl]), (by simp only [W0, Nat.reduceEqDiff, Nat.reduceLT, ↓reduceIte, hl, e2, e10, e11, e12, e13]), S166.pick [] (by decide) rfl⟩
            · rintro envj191 h193 ⟨hl, e6, S192⟩
              try simp only [↓WD, W0, evalOp, Nat.reduceEqDiff, Nat.reduceLT, ↓reduceIte, reduceCtorEq, hl, e6]
              refine KP_ret (vs := [.bool j191]) (by simp only [aresults, aresult, gs, List.length_set, Nat.reduceEqDiff, Nat.reduceLT, ↓reduceIte, hl, e6]) ?_
              obtain rfl := Option.some.inj hF
              exact ⟨rfl, S192⟩
          · skip
            rw [sumK_inr] at hF
            try simp only [↓WD, W0, evalOp, Nat.reduceEqDiff, Nat.reduceLT, ↓reduceIte, reduceCtorEq, hl, e6]
            refine KP_ret (vs := [.bool true]) (by simp only [aresults, aresult, gs, List.length_set, Nat.reduceEqDiff, Nat.reduceLT, ↓reduceIte, hl, e6]) ?_
            obtain rfl := Option.some.inj hF
            exact ⟨rfl, S99⟩
end Go.Proofs.YtikkpmmhejjpaaaM
