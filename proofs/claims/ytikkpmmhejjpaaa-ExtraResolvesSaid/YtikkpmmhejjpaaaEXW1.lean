/- The abstract machine computes what the plain functions say: printed by lift.py. -/
import Derived.Test.YtikkpmmhejjpaaaEXW0
set_option linter.unusedSimpArgs false
set_option linter.unusedVariables false
namespace Go.Proofs.YtikkpmmhejjpaaaM
open Go Go.RowKit
set_option maxRecDepth 100000 in
set_option maxHeartbeats 4000000 in
theorem W_extra_Find {K : PureK} (n24 : K 24 = none) (m : Nat) (hm : NF + 1 ≤ m) (h : AH) (ul : AV) (l : List Gapi_Extra) (hul : RO 2 ul h (l.map Gapi_Extra.cells)) (id_ : Int) {r : (List UInt8) × Bool} (hF : F_extra_Find l id_ = some r) :
    AR (acall Try.prog (hooksOf K) (drawnOf Try.prog (tabOf K)) m 24 [ul, .int .i64 id_] h) (fun v h' => v = .tup [.str r.1, .bool r.2] ∧ Sep h [] h' []) := by
  obtain ⟨m, rfl⟩ : ∃ k, m = k + 1 := ⟨m - 1, by omega⟩
  refine AR_call (hooksOf_none n24) Try.func24 rfl _ _ fun env hl he => ?_
  have e0 := he 0
  have e1 := he 1
  simp only [List.getD_cons_zero, List.getD_cons_succ] at e0 e1
  simp only [Try.f24] at hl ⊢
  simp only [List.length_cons, List.length_nil, Nat.reduceAdd, Nat.reduceSub] at hl
  clear he
  have S0 : Sep h [] h [] := Sep.nil h
  rw [F_extra_Find] at hF
  try simp only [↓WD, W0, evalOp, Nat.reduceEqDiff, Nat.reduceLT, ↓reduceIte, reduceCtorEq, hl, e0, e1]
  rw [AW_region]
  refine AE_joinR (fun e h' => h = h' ∧ e.length = 21 ∧ e.getD 0 .undef = ul ∧ e.getD 1 .undef = .int .i64 id_) (by
    simp only [↓WE, WA, WL, aop, ofValue, ofCell, isConst, abin, acall1, abuiltin, aun, AV.cells, AV.one, Nat.reduceAdd, Int.reduceLT, Int.reduceLE, ↓WD, W0, evalOp, Nat.reduceEqDiff, Nat.reduceLT, ↓reduceIte, reduceCtorEq, hl, e0, e1]
    exact ⟨rfl, (by simp only [List.length_set, hl]), (by simp only [W0, Nat.reduceEqDiff, Nat.reduceLT, ↓reduceIte, hl, e0, e1]), (by simp only [W0, Nat.reduceEqDiff, Nat.reduceLT, ↓reduceIte, hl, e0, e1])⟩) ?_
  rintro envg1 _ ⟨rfl, hl, e0, e1⟩
  try simp only [↓WD, W0, evalOp, Nat.reduceEqDiff, Nat.reduceLT, ↓reduceIte, reduceCtorEq, hl, e0, e1]
  rw [AW_region]
  have ol2 := RO.len (P := Try.prog) sl_35 (S0.ro hul)
  rw [List.length_map] at ol2
  refine AE_joinR (fun e h' => h = h' ∧ e.length = 21 ∧ e.getD 1 .undef = .int .i64 id_ ∧ e.getD 8 .undef = ul ∧ e.getD 9 .undef = .int .i64 (l.length : Int) ∧ e.getD 10 .undef = .int .i64 0) (by
    simp only [↓WE, WA, WL, aop, ofValue, ofCell, isConst, abin, acall1, abuiltin, aun, AV.cells, AV.one, Nat.reduceAdd, Int.reduceLT, Int.reduceLE, ↓WD, W0, evalOp, Nat.reduceEqDiff, Nat.reduceLT, ↓reduceIte, reduceCtorEq, hl, e0, e1, ol2]
    exact ⟨rfl, (by simp only [List.length_set, hl]), (by simp only [W0, Nat.reduceEqDiff, Nat.reduceLT, ↓reduceIte, hl, e0, e1]), (by simp only [W0, Nat.reduceEqDiff, Nat.reduceLT, ↓reduceIte, hl, e0, e1]), (by simp only [W0, Nat.reduceEqDiff, Nat.reduceLT, ↓reduceIte, hl, e0, e1]), (by simp only [W0, Nat.reduceEqDiff, Nat.reduceLT, ↓reduceIte, hl, e0, e1])⟩) ?_
  rintro envg3 _ ⟨rfl, hl, e1, e8, e9, e10⟩
  try simp only [↓WD, W0, evalOp, Nat.reduceEqDiff, Nat.reduceLT, ↓reduceIte, reduceCtorEq, hl, e1, e8, e9, e10]
  obtain ⟨r66, qr66, hF⟩ := obind hF
  refine AW_lift (L_extra_Find_1 l id_) (fun s e h' => e.length = 21 ∧ e.getD 1 .undef = .int .i64 id_ ∧ e.getD 8 .undef = ul ∧ e.getD 9 .undef = .int .i64 (l.length : Int) ∧ e.getD 10 .undef = .int .i64 s ∧ Sep h [] h' []) (fun r66 x e h' => (∃ (t67 : Unit), r66 = (.inl t67) ∧ x = .exit 0 ∧ e.length = 21 ∧ Sep h [] h' []) ∨ (∃ (t70 : (List UInt8)), r66 = (.inr t70) ∧ x = .ret ∧ e.length = 21 ∧ e.getD 4 .undef = .str t70 ∧ e.getD 5 .undef = .bool true ∧ Sep h [] h' [])) qr66 (by omega) ?_ ?_ ?_
  · rintro s envr66 h35 or66 ⟨hl, e1, e8, e9, e10, S36⟩ wr66
    rw [L_extra_Find_1] at wr66
    try simp only [↓WD, W0, evalOp, Nat.reduceEqDiff, Nat.reduceLT, ↓reduceIte, reduceCtorEq, hl, e1, e8, e9, e10]
    rw [AW_region]
    refine AE_joinR (fun e h' => h35 = h' ∧ e.length = 21 ∧ e.getD 1 .undef = .int .i64 id_ ∧ e.getD 8 .undef = ul ∧ e.getD 9 .undef = .int .i64 (l.length : Int) ∧ e.getD 10 .undef = .int .i64 s ∧ e.getD 11 .undef = .bool (decide (s < (l.length : Int)))) (by
      simp only [↓WE, WA, WL, aop, ofValue, ofCell, isConst, abin, acall1, abuiltin, aun, AV.cells, AV.one, Nat.reduceAdd, Int.reduceLT, Int.reduceLE, ↓WD, W0, evalOp, Nat.reduceEqDiff, Nat.reduceLT, ↓reduceIte, reduceCtorEq, hl, e1, e8, e9, e10]
      exact ⟨rfl, (by simp only [List.length_set, hl]), (by simp only [W0, Nat.reduceEqDiff, Nat.reduceLT, ↓reduceIte, hl, e1, e8, e9, e10]), (by simp only [W0, Nat.reduceEqDiff, Nat.reduceLT, ↓reduceIte, hl, e1, e8, e9, e10]), (by simp only [W0, Nat.reduceEqDiff, Nat.reduceLT, ↓reduceIte, hl, e1, e8, e9, e10]), (by simp only [W0, Nat.reduceEqDiff, Nat.reduceLT, ↓reduceIte, hl, e1, e8, e9, e10]), (by simp only [W0, Nat.reduceEqDiff, Nat.reduceLT, ↓reduceIte, hl, e1, e8, e9, e10])⟩) ?_
    rintro envg37 _ ⟨rfl, hl, e1, e8, e9, e10, e11⟩
    try simp only [↓WD, W0, evalOp, Nat.reduceEqDiff, Nat.reduceLT, ↓reduceIte, reduceCtorEq, hl, e1, e8, e9, e10, e11]
    refine CondK_dec (fun c39 => ?_) (fun c39 => ?_)
    · rw [if_pos c39] at wr66
      try simp only [↓WD, W0, evalOp, Nat.reduceEqDiff, Nat.reduceLT, ↓reduceIte, reduceCtorEq, hl, e1, e8, e9, e10, e11]
      rw [AW_region]
      obtain ⟨x40, qx40, wr66⟩ := obind wr66
      obtain ⟨i41, off42, oi43, hp44⟩ := RO.addr (P := Try.prog) sl_35 (S36.ro hul) qx40
      have ol45 := RO.ld (P := Try.prog) (S36.ro hul) hp44 qx40 (t := 47) (o := 0) (v := .agg [.int .i64 x40.xID, .str x40.xData]) (by omega) (by simp only [apart, ag_47, sz_47]; rfl)
      simp only [Nat.add_zero] at ol45
      obtain ⟨i46, h47, oa48, S49⟩ := S36.alloc 47 [.int .i64 0, .str []]
      have S51 : Sep h [] h47 [.blk i46 [.int .i64 0, .str []] 47] := S49
      obtain ⟨h52, os53, S54⟩ := S51.store (P := Try.prog) 0 rfl (t := 47) (off := 0) (v := .agg [.int .i64 x40.xID, .str x40.xData]) (c' := [.int .i64 x40.xID, .str x40.xData]) rfl sz_47 rfl (by simp) rfl
      have S55 : Sep h [] h52 [.blk i46 [.int .i64 x40.xID, .str x40.xData] 47] := S54
      refine AE_joinR (fun e h' => h52 = h' ∧ e.length = 21 ∧ e.getD 1 .undef = .int .i64 id_ ∧ e.getD 7 .undef = .ptr i46 0 ∧ e.getD 8 .undef = ul ∧ e.getD 9 .undef = .int .i64 (l.length : Int) ∧ e.getD 10 .undef = .int .i64 s) (by
        simp only [↓WE, WA, WL, aop, ofValue, ofCell, isConst, abin, acall1, abuiltin, aun, AV.cells, AV.one, Nat.reduceAdd, Int.reduceLT, Int.reduceLE, ↓WD, W0, evalOp, Nat.reduceEqDiff, Nat.reduceLT, ↓reduceIte, reduceCtorEq, hl, e1, e8, e9, e10, e11, oi43, ol45, zero_47, oa48, os53]
        exact ⟨rfl, (by simp only [List.length_set, hl]), (by simp only [W0, Nat.reduceEqDiff, Nat.reduceLT, ↓reduceIte, hl, e1, e8, e9, e10, e11]), (by simp only [W0, Nat.reduceEqDiff, Nat.reduceLT, ↓reduceIte, hl, e1, e8, e9, e10, e11]), (by simp only [W0, Nat.reduceEqDiff, Nat.reduceLT, ↓reduceIte, hl, e1, e8, e9, e10, e11]), (by simp only [W0, Nat.reduceEqDiff, Nat.reduceLT, ↓reduceIte, hl, e1, e8, e9, e10, e11]), (by simp only [W0, Nat.reduceEqDiff, Nat.reduceLT, ↓reduceIte, hl, e1, e8, e9, e10, e11])⟩) ?_
      rintro envg56 _ ⟨rfl, hl, e1, e7, e8, e9, e10⟩
      try simp only [↓WD, W0, evalOp, Nat.reduceEqDiff, Nat.reduceLT, ↓reduceIte, reduceCtorEq, hl, e1, e7, e8, e9, e10]
      rw [AW_region]
      have ol57 := S55.load (P := Try.prog) 0 rfl (t := 3) (off := 0) (v := .int .i64 x40.xID) (by simp only [apart, ag_3, sz_3]; rfl)
      refine AE_joinR (fun e h' => h52 = h' ∧ e.length = 21 ∧ e.getD 1 .undef = .int .i64 id_ ∧ e.getD 7 .undef = .ptr i46 0 ∧ e.getD 8 .undef = ul ∧ e.getD 9 .undef = .int .i64 (l.length : Int) ∧ e.getD 10 .undef = .int .i64 s ∧ e.getD 17 .undef = .bool (x40.xID == id_)) (by
        simp only [↓WE, WA, WL, aop, ofValue, ofCell, isConst, abin, acall1, abuiltin, aun, AV.cells, AV.one, Nat.reduceAdd, Int.reduceLT, Int.reduceLE, ↓WD, W0, evalOp, Nat.reduceEqDiff, Nat.reduceLT, ↓reduceIte, reduceCtorEq, hl, e1, e7, e8, e9, e10, fa_47_0, ol57]
        exact ⟨rfl, (by simp only [List.length_set, hl]), (by simp only [W0, Nat.reduceEqDiff, Nat.reduceLT, ↓reduceIte, hl, e1, e7, e8, e9, e10]), (by simp only [W0, Nat.reduceEqDiff, Nat.reduceLT, ↓reduceIte, hl, e1, e7, e8, e9, e10]), (by simp only [W0, Nat.reduceEqDiff, Nat.reduceLT, ↓reduceIte, hl, e1, e7, e8, e9, e10]), (by simp only [W0, Nat.reduceEqDiff, Nat.reduceLT, ↓reduceIte, hl, e1, e7, e8, e9, e10]), (by simp only [W0, Nat.reduceEqDiff, Nat.reduceLT, ↓reduceIte, hl, e1, e7, e8, e9, e10]), (by simp only [W0, Nat.reduceEqDiff, Nat.reduceLT, ↓reduceIte, hl, e1, e7, e8, e9, e10])⟩) ?_
      rintro envg58 _ ⟨rfl, hl, e1, e7, e8, e9, e10, e17⟩
      try simp only [↓WD, W0, evalOp, Nat.reduceEqDiff, Nat.reduceLT, ↓reduceIte, reduceCtorEq, hl, e1, e7, e8, e9, e10, e17]
      refine CondK_boo (fun c62 => ?_) (fun c62 => ?_)
      · rw [if_pos c62] at wr66
        try simp only [↓WD, W0, evalOp, Nat.reduceEqDiff, Nat.reduceLT, ↓reduceIte, reduceCtorEq, hl, e1, e7, e8, e9, e10, e17]
        rw [AW_region]
        have ol63 := S55.load (P := Try.prog) 0 rfl (t := 9) (off := 1) (v := .str x40.xData) (by simp only [apart, ag_9, sz_9]; rfl)
        refine AE_joinR (fun e h' => h52 = h' ∧ e.length = 21 ∧ e.getD 4 .undef = .str x40.xData ∧ e.getD 5 .undef = .bool true) (by
          simp only [↓WE, WA, WL, aop, ofValue, ofCell, isConst, abin, acall1, abuiltin, aun, AV.cells, AV.one, Nat.reduceAdd, Int.reduceLT, Int.reduceLE, ↓WD, W0, evalOp, Nat.reduceEqDiff, Nat.reduceLT, ↓reduceIte, reduceCtorEq, hl, e1, e7, e8, e9, e10, e17, fa_47_1, ol63]
          exact ⟨rfl, (by simp only [List.length_set, hl]), (by simp only [W0, Nat.reduceEqDiff, Nat.reduceLT, ↓reduceIte, hl, e1, e7, e8, e9, e10, e17]), (by simp only [W0, Nat.reduceEqDiff, Nat.reduceLT, ↓reduceIte, hl, e1, e7, e8, e9, e10, e17])⟩) ?_
        rintro envg64 _ ⟨rfl, hl, e4, e5⟩
        try simp only [↓WD, W0, evalOp, Nat.reduceEqDiff, Nat.reduceLT, ↓reduceIte, reduceCtorEq, hl, e4, e5]
        obtain rfl := Option.some.inj wr66
        rw [KP_nil, QL_ret]
        exact ⟨_, rfl, .inr (⟨_, rfl, rfl, (by simp only [List.length_set, hl]), (by simp only [W0, Nat.reduceEqDiff, Nat.reduceLT, ↓reduceIte, hl, e4, e5]), (by simp only [W0, Nat.reduceEqDiff, Nat.reduceLT, ↓reduceIte, hl, e4, e5]), S55.pick [] (by decide) rfl⟩)⟩
      · rw [if_neg (nf c62)] at wr66
        try simp only [↓WD, W0, evalOp, Nat.reduceEqDiff, Nat.reduceLT, ↓reduceIte, reduceCtorEq, hl, e1, e7, e8, e9, e10, e17]
        rw [AW_region]
        refine AE_joinR (fun e h' => h52 = h' ∧ e.length = 21 ∧ e.getD 1 .undef = .int .i64 id_ ∧ e.getD 8 .undef = ul ∧ e.getD 9 .undef = .int .i64 (l.length : Int) ∧ e.getD 10 .undef = .int .i64 (IntKind.i64.wrap (s + 1))) (by
          simp only [↓WE, WA, WL, aop, ofValue, ofCell, isConst, abin, acall1, abuiltin, aun, AV.cells, AV.one, Nat.reduceAdd, Int.reduceLT, Int.reduceLE, ↓WD, W0, evalOp, Nat.reduceEqDiff, Nat.reduceLT, ↓reduceIte, reduceCtorEq, hl, e1, e7, e8, e9, e10, e17]
          exact ⟨rfl, (by simp only [List.length_set, hl]), (by simp only [W0, Nat.reduceEqDiff, Nat.reduceLT, ↓reduceIte, hl, e1, e7, e8, e9, e10, e17]), (by simp only [W0, Nat.reduceEqDiff, Nat.reduceLT, ↓reduceIte, hl, e1, e7, e8, e9, e10, e17]), (by simp only [W0, Nat.reduceEqDiff, Nat.reduceLT, ↓reduceIte, hl, e1, e7, e8, e9, e10, e17]), (by simp only [W0, Nat.reduceEqDiff, Nat.reduceLT, ↓reduceIte, hl, e1, e7, e8, e9, e10, e17])⟩) ?_
        rintro envg65 _ ⟨rfl, hl, e1, e8, e9, e10⟩
        try simp only [↓WD, W0, evalOp, Nat.reduceEqDiff, Nat.reduceLT, ↓reduceIte, reduceCtorEq, hl, e1, e8, e9, e10]
        obtain rfl := Option.some.inj wr66
        rw [KP_nil, QL_normal]
        exact ⟨_, rfl, (by simp only [List.length_set, hl]), (by simp only [W0, Nat.reduceEqDiff, Nat.reduceLT, ↓reduceIte, hl, e1, e8, e9, e10]), (by simp only [W0, Nat.reduceEqDiff, Nat.reduceLT, ↓reduceIte, hl, e1, e8, e9, e10]), (by simp only [W0, Nat.reduceEqDiff, Nat.reduceLT, ↓reduceIte, hl, e1, e8, e9, e10]), (by simp only [W0, Nat.reduceEqDiff, Nat.reduceLT, ↓reduceIte, hl, e1, e8, e9, e10]), S55.pick [] (by decide) rfl⟩
    · rw [if_neg c39] at wr66
      try simp only [↓WD, W0, evalOp, Nat.reduceEqDiff, Nat.reduceLT, ↓reduceIte, reduceCtorEq, hl, e1, e8, e9, e10, e11]
      obtain rfl := Option.some.inj wr66
      rw [KP_nil, QL_exit]
      exact ⟨_, rfl, .inl ⟨_, rfl, rfl, (by simp only [List.length_set, hl]), S36⟩⟩
  · exact ⟨(by simp only [List.length_set, hl]), (by simp only [W0, Nat.reduceEqDiff, Nat.reduceLT, ↓reduceIte, hl, e1, e8, e9, e10]), (by simp only [W0, Nat.reduceEqDiff, Nat.reduceLT, ↓reduceIte, hl, e1, e8, e9, e10]), (by simp only [W0, Nat.reduceEqDiff, Nat.reduceLT, ↓reduceIte, hl, e1, e8, e9, e10]), (by simp only [W0, Nat.reduceEqDiff, Nat.reduceLT, ↓reduceIte, hl, e1, e8, e9, e10]), S0⟩
  · intro x envr66 h68 hk
    rcases hk with ⟨t67, rfl, rfl, hl, S69⟩ | ⟨t70, rfl, rfl, hl, e4, e5, S72⟩
    · skip
      rw [sumK_inl] at hF
      try simp only [↓WD, W0, evalOp, Nat.reduceEqDiff, Nat.reduceLT, ↓reduceIte, reduceCtorEq, hl]
      rw [AW_region]
      refine AE_joinR (fun e h' => h68 = h' ∧ e.length = 21 ∧ e.getD 4 .undef = .str [] ∧ e.getD 5 .undef = .bool false) (by
        simp only [↓WE, WA, WL, aop, ofValue, ofCell, isConst, abin, acall1, abuiltin, aun, AV.cells, AV.one, Nat.reduceAdd, Int.reduceLT, Int.reduceLE, ↓WD, W0, evalOp, Nat.reduceEqDiff, Nat.reduceLT, ↓reduceIte, reduceCtorEq, hl]
        exact ⟨rfl, (by simp only [List.length_set, hl]), (by simp only [W0, Nat.reduceEqDiff, Nat.reduceLT, ↓reduceIte, hl]), (by simp only [W0, Nat.reduceEqDiff, Nat.reduceLT, ↓reduceIte, hl])⟩) ?_
      rintro envg73 _ ⟨rfl, hl, e4, e5⟩
      try simp only [↓WD, W0, evalOp, Nat.reduceEqDiff, Nat.reduceLT, ↓reduceIte, reduceCtorEq, hl, e4, e5]
      refine KP_ret (vs := [.str [], .bool false]) (by simp only [aresults, aresult, gs, List.length_set, Nat.reduceEqDiff, Nat.reduceLT, ↓reduceIte, hl, e4, e5]) ?_
      obtain rfl := Option.some.inj hF
      exact ⟨rfl, S69⟩
    · skip
      rw [sumK_inr] at hF
      try simp only [↓WD, W0, evalOp, Nat.reduceEqDiff, Nat.reduceLT, ↓reduceIte, reduceCtorEq, hl, e4, e5]
      refine KP_ret (vs := [.str t70, .bool true]) (by simp only [aresults, aresult, gs, List.length_set, Nat.reduceEqDiff, Nat.reduceLT, ↓reduceIte, hl, e4, e5]) ?_
      obtain rfl := Option.some.inj hF
      exact ⟨rfl, S72⟩
set_option maxRecDepth 100000 in
set_option maxHeartbeats 4000000 in
theorem W_field_U64 {K : PureK} (k46 : K 46 = some kf_46) (n18 : K 18 = none) (m : Nat) (hm : NF + 1 ≤ m) (h : AH) (s_ : List UInt8) (at_ : Int) {r : Int × Int} (hF : F_field_U64 s_ at_ = some r) :
    AR (acall Try.prog (hooksOf K) (drawnOf Try.prog (tabOf K)) m 18 [.str s_, .int .i64 at_] h) (fun v h' => v = .tup [.int .u64 r.1, .int .i64 r.2]) := by
  obtain ⟨m, rfl⟩ : ∃ k, m = k + 1 := ⟨m - 1, by omega⟩
  refine AR_call (hooksOf_none n18) Try.func18 rfl _ _ fun env hl he => ?_
  have e0 := he 0
  have e1 := he 1
  simp only [List.getD_cons_zero, List.getD_cons_succ] at e0 e1
  simp only [Try.f18] at hl ⊢
  simp only [List.length_cons, List.length_nil, Nat.reduceAdd, Nat.reduceSub] at hl
  clear he
  have S0 : Sep h [] h [] := Sep.nil h
  rw [F_field_U64] at hF
  try simp only [↓WD, W0, evalOp, Nat.reduceEqDiff, Nat.reduceLT, ↓reduceIte, reduceCtorEq, hl, e0, e1]
  rw [AW_region]
  refine AE_joinR (fun e h' => h = h' ∧ e.length = 11 ∧ e.getD 0 .undef = .str s_ ∧ e.getD 1 .undef = .int .i64 at_) (by
    simp only [↓WE, WA, WL, aop, ofValue, ofCell, isConst, abin, acall1, abuiltin, aun, AV.cells, AV.one, Nat.reduceAdd, Int.reduceLT, Int.reduceLE, ↓WD, W0, evalOp, Nat.reduceEqDiff, Nat.reduceLT, ↓reduceIte, reduceCtorEq, hl, e0, e1]
    exact ⟨rfl, (by simp only [List.length_set, hl]), (by simp only [W0, Nat.reduceEqDiff, Nat.reduceLT, ↓reduceIte, hl, e0, e1]), (by simp only [W0, Nat.reduceEqDiff, Nat.reduceLT, ↓reduceIte, hl, e0, e1])⟩) ?_
  rintro envg1 _ ⟨rfl, hl, e0, e1⟩
  try simp only [↓WD, W0, evalOp, Nat.reduceEqDiff, Nat.reduceLT, ↓reduceIte, reduceCtorEq, hl, e0, e1]
  rw [AW_region]
  obtain ⟨y2, qy2, hF⟩ := obind hF
  have og3 := fun (D : Drawn) (n : Nat) (g : AH) => call_hook (P := Try.prog) (D := D) k46 n (args := [.str s_, .int .i64 at_, .int .i64 8]) (v := .tup [.int .u64 y2.1, .int .i64 y2.2]) ((kf_46_eq s_ at_ 8).trans (by rw [qy2]; rfl)) g
  refine AE_joinR (fun e h' => h = h' ∧ e.length = 11 ∧ e.getD 4 .undef = .int .u64 y2.1 ∧ e.getD 5 .undef = .int .i64 y2.2) (by
    simp only [↓WE, WA, WL, aop, ofValue, ofCell, isConst, abin, acall1, abuiltin, aun, AV.cells, AV.one, Nat.reduceAdd, Int.reduceLT, Int.reduceLE, ↓WD, W0, evalOp, Nat.reduceEqDiff, Nat.reduceLT, ↓reduceIte, reduceCtorEq, hl, e0, e1, og3]
    exact ⟨rfl, (by simp only [List.length_set, hl]), (by simp only [W0, Nat.reduceEqDiff, Nat.reduceLT, ↓reduceIte, hl, e0, e1]), (by simp only [W0, Nat.reduceEqDiff, Nat.reduceLT, ↓reduceIte, hl, e0, e1])⟩) ?_
  rintro envg4 _ ⟨rfl, hl, e4, e5⟩
  try simp only [↓WD, W0, evalOp, Nat.reduceEqDiff, Nat.reduceLT, ↓reduceIte, reduceCtorEq, hl, e4, e5]
  refine KP_ret (vs := [.int .u64 y2.1, .int .i64 y2.2]) (by simp only [aresults, aresult, gs, List.length_set, Nat.reduceEqDiff, Nat.reduceLT, ↓reduceIte, hl, e4, e5]) ?_
  obtain rfl := Option.some.inj hF
  exact rfl
set_option maxRecDepth 100000 in
set_option maxHeartbeats 4000000 in
theorem W_extra_Resolve {K : PureK} (k18 : K 18 = some kf_18) (n24 : K 24 = none) (n28 : K 28 = none) (m : Nat) (hm : NF + 2 ≤ m) (h : AH) (ul : AV) (l : List Gapi_Extra) (hul : RO 2 ul h (l.map Gapi_Extra.cells)) (n_0 n_1 n_2 : Int) {r : (List Int) × Int} (hF : F_extra_Resolve l [n_0, n_1, n_2] = some r) :
    AR (acall Try.prog (hooksOf K) (drawnOf Try.prog (tabOf K)) m 28 [ul, .agg [.int .i64 n_0, .int .i64 n_1, .int .i64 n_2]] h) (fun v h' => v = .tup [.agg (r.1.map (AV.int .i64)), .int .i64 r.2] ∧ Sep h [] h' []) := by
  obtain ⟨m, rfl⟩ : ∃ k, m = k + 1 := ⟨m - 1, by omega⟩
  refine AR_call (hooksOf_none n28) Try.func28 rfl _ _ fun env hl he => ?_
  have e0 := he 0
  have e1 := he 1
  simp only [List.getD_cons_zero, List.getD_cons_succ] at e0 e1
  simp only [Try.f28] at hl ⊢
  simp only [List.length_cons, List.length_nil, Nat.reduceAdd, Nat.reduceSub] at hl
  clear he
  have S0 : Sep h [] h [] := Sep.nil h
  rw [F_extra_Resolve] at hF
  try simp only [↓WD, W0, evalOp, Nat.reduceEqDiff, Nat.reduceLT, ↓reduceIte, reduceCtorEq, hl, e0, e1]
  rw [AW_region]
  obtain ⟨i1, h2, oa3, S4⟩ := S0.alloc 53 [.int .i64 n_0, .int .i64 n_1, .int .i64 n_2]
  have S6 : Sep h [] h2 [.blk i1 ([n_0, n_1, n_2].map (AV.int .i64)) 53] := S4
  obtain ⟨i7, h8, oa9, S10⟩ := S6.alloc 53 [.int .i64 0, .int .i64 0, .int .i64 0]
  have S12 : Sep h [] h8 [.blk i1 ([n_0, n_1, n_2].map (AV.int .i64)) 53, .blk i7 ([0, 0, 0].map (AV.int .i64)) 53] := S10
  refine AE_joinR (fun e h' => h8 = h' ∧ e.length = 50 ∧ e.getD 0 .undef = ul ∧ e.getD 3 .undef = .ptr i1 0 ∧ e.getD 4 .undef = .ptr i7 0) (by
    simp only [↓WE, WA, WL, aop, ofValue, ofCell, isConst, abin, acall1, abuiltin, aun, AV.cells, AV.one, Nat.reduceAdd, Int.reduceLT, Int.reduceLE, ↓WD, W0, evalOp, Nat.reduceEqDiff, Nat.reduceLT, ↓reduceIte, reduceCtorEq, hl, e0, e1, oa3, zero_53, oa9]
    exact ⟨rfl, (by simp only [List.length_set, hl]), (by simp only [W0, Nat.reduceEqDiff, Nat.reduceLT, ↓reduceIte, hl, e0, e1]), (by simp only [W0, Nat.reduceEqDiff, Nat.reduceLT, ↓reduceIte, hl, e0, e1]), (by simp only [W0, Nat.reduceEqDiff, Nat.reduceLT, ↓reduceIte, hl, e0, e1])⟩) ?_
  rintro envg13 _ ⟨rfl, hl, e0, e3, e4⟩
  try simp only [↓WD, W0, evalOp, Nat.reduceEqDiff, Nat.reduceLT, ↓reduceIte, reduceCtorEq, hl, e0, e3, e4]
  rw [AW_region]
  obtain ⟨y14, qy14, hF⟩ := obind hF
  obtain ⟨v18, h16, og15, rfl, S17⟩ := (W_extra_Find n24 m (by omega) h8 ul l (S12.ro hul) 1 qy14).out
  have S19 : Sep h [] h16 [.blk i1 ([n_0, n_1, n_2].map (AV.int .i64)) 53, .blk i7 ([0, 0, 0].map (AV.int .i64)) 53] := S12.call0 S17
  refine AE_joinR (fun e h' => h16 = h' ∧ e.length = 50 ∧ e.getD 3 .undef = .ptr i1 0 ∧ e.getD 4 .undef = .ptr i7 0 ∧ e.getD 6 .undef = .str y14.1) (by
    simp only [↓WE, WA, WL, aop, ofValue, ofCell, isConst, abin, acall1, abuiltin, aun, AV.cells, AV.one, Nat.reduceAdd, Int.reduceLT, Int.reduceLE, ↓WD, W0, evalOp, Nat.reduceEqDiff, Nat.reduceLT, ↓reduceIte, reduceCtorEq, hl, e0, e3, e4, og15]
    exact ⟨rfl, (by simp only [List.length_set, hl]), (by simp only [W0, Nat.reduceEqDiff, Nat.reduceLT, ↓reduceIte, hl, e0, e3, e4]), (by simp only [W0, Nat.reduceEqDiff, Nat.reduceLT, ↓reduceIte, hl, e0, e3, e4]), (by simp only [W0, Nat.reduceEqDiff, Nat.reduceLT, ↓reduceIte, hl, e0, e3, e4])⟩) ?_
  rintro envg20 _ ⟨rfl, hl, e3, e4, e6⟩
  try simp only [↓WD, W0, evalOp, Nat.reduceEqDiff, Nat.reduceLT, ↓reduceIte, reduceCtorEq, hl, e3, e4, e6]
  rw [AW_region]
  obtain ⟨_, qol21, hF⟩ := obind hF
  have ol21 := S19.load (P := Try.prog) 0 rfl (t := 53) (apart_all ag_53 sz_53 qol21)
  simp only [List.map_cons, List.map_nil] at ol21
  obtain ⟨i22, h23, oa24, S25⟩ := S19.alloc 53 [.int .i64 0, .int .i64 0, .int .i64 0]
  have S27 : Sep h [] h23 [.blk i1 ([n_0, n_1, n_2].map (AV.int .i64)) 53, .blk i7 ([0, 0, 0].map (AV.int .i64)) 53, .blk i22 ([0, 0, 0].map (AV.int .i64)) 53] := S25
  obtain ⟨_, q31, hF⟩ := obind hF
  obtain ⟨_, q32, hF⟩ := obind hF
  obtain ⟨h28, os29, S30⟩ := S27.storeAll (P := Try.prog) 2 rfl (t := 53) sz_53 q31 q32
  simp only [List.map_cons, List.map_nil] at os29
  have S33 : Sep h [] h28 [.blk i1 ([n_0, n_1, n_2].map (AV.int .i64)) 53, .blk i7 ([0, 0, 0].map (AV.int .i64)) 53, .blk i22 ([n_0, n_1, n_2].map (AV.int .i64)) 53] := S30
  refine AE_joinR (fun e h' => h28 = h' ∧ e.length = 50 ∧ e.getD 3 .undef = .ptr i1 0 ∧ e.getD 4 .undef = .ptr i7 0 ∧ e.getD 6 .undef = .str y14.1 ∧ e.getD 8 .undef = .ptr i22 0) (by
    simp only [↓WE, WA, WL, aop, ofValue, ofCell, isConst, abin, acall1, abuiltin, aun, AV.cells, AV.one, Nat.reduceAdd, Int.reduceLT, Int.reduceLE, ↓WD, W0, evalOp, Nat.reduceEqDiff, Nat.reduceLT, ↓reduceIte, reduceCtorEq, hl, e3, e4, e6, ol21, zero_53, oa24, os29]
    exact ⟨rfl, (by simp only [List.length_set, hl]), (by simp only [W0, Nat.reduceEqDiff, Nat.reduceLT, ↓reduceIte, hl, e3, e4, e6]), (by simp only [W0, Nat.reduceEqDiff, Nat.reduceLT, ↓reduceIte, hl, e3, e4, e6]), (by simp only [W0, Nat.reduceEqDiff, Nat.reduceLT, ↓reduceIte, hl, e3, e4, e6]), (by simp only [W0, Nat.reduceEqDiff, Nat.reduceLT, ↓reduceIte, hl, e3, e4, e6])⟩) ?_
  rintro envg34 _ ⟨rfl, hl, e3, e4, e6, e8⟩
  try simp only [↓WD, W0, evalOp, Nat.reduceEqDiff, Nat.reduceLT, ↓reduceIte, reduceCtorEq, hl, e3, e4, e6, e8]
  rw [AW_region]
  refine AE_joinR (fun e h' => h28 = h' ∧ e.length = 50 ∧ e.getD 3 .undef = .ptr i1 0 ∧ e.getD 4 .undef = .ptr i7 0 ∧ e.getD 6 .undef = .str y14.1 ∧ e.getD 8 .undef = .ptr i22 0 ∧ e.getD 9 .undef = .int .i64 0) (by
    simp only [↓WE, WA, WL, aop, ofValue, ofCell, isConst, abin, acall1, abuiltin, aun, AV.cells, AV.one, Nat.reduceAdd, Int.reduceLT, Int.reduceLE, ↓WD, W0, evalOp, Nat.reduceEqDiff, Nat.reduceLT, ↓reduceIte, reduceCtorEq, hl, e3, e4, e6, e8]
    exact ⟨rfl, (by simp only [List.length_set, hl]), (by simp only [W0, Nat.reduceEqDiff, Nat.reduceLT, ↓reduceIte, hl, e3, e4, e6, e8]), (by simp only [W0, Nat.reduceEqDiff, Nat.reduceLT, ↓reduceIte, hl, e3, e4, e6, e8]), (by simp only [W0, Nat.reduceEqDiff, Nat.reduceLT, ↓reduceIte, hl, e3, e4, e6, e8]), (by simp only [W0, Nat.reduceEqDiff, Nat.reduceLT, ↓reduceIte, hl, e3, e4, e6, e8]), (by simp only [W0, Nat.reduceEqDiff, Nat.reduceLT, ↓reduceIte, hl, e3, e4, e6, e8])⟩) ?_
  rintro envg35 _ ⟨rfl, hl, e3, e4, e6, e8, e9⟩
  try simp only [↓WD, W0, evalOp, Nat.reduceEqDiff, Nat.reduceLT, ↓reduceIte, reduceCtorEq, hl, e3, e4, e6, e8, e9]
  rw [AW_region]
  refine AE_joinR (fun e h' => h28 = h' ∧ e.length = 50 ∧ e.getD 3 .undef = .ptr i1 0 ∧ e.getD 4 .undef = .ptr i7 0 ∧ e.getD 6 .undef = .str y14.1 ∧ e.getD 8 .undef = .ptr i22 0 ∧ e.getD 9 .undef = .int .i64 0 ∧ e.getD 10 .undef = .int .i64 0) (by
    simp only [↓WE, WA, WL, aop, ofValue, ofCell, isConst, abin, acall1, abuiltin, aun, AV.cells, AV.one, Nat.reduceAdd, Int.reduceLT, Int.reduceLE, ↓WD, W0, evalOp, Nat.reduceEqDiff, Nat.reduceLT, ↓reduceIte, reduceCtorEq, hl, e3, e4, e6, e8, e9]
    exact ⟨rfl, (by simp only [List.length_set, hl]), (by simp only [W0, Nat.reduceEqDiff, Nat.reduceLT, ↓reduceIte, hl, e3, e4, e6, e8, e9]), (by simp only [W0, Nat.reduceEqDiff, Nat.reduceLT, ↓reduceIte, hl, e3, e4, e6, e8, e9]), (by simp only [W0, Nat.reduceEqDiff, Nat.reduceLT, ↓reduceIte, hl, e3, e4, e6, e8, e9]), (by simp only [W0, Nat.reduceEqDiff, Nat.reduceLT, ↓reduceIte, hl, e3, e4, e6, e8, e9]), (by simp only [W0, Nat.reduceEqDiff, Nat.reduceLT, ↓reduceIte, hl, e3, e4, e6, e8, e9]), (by simp only [W0, Nat.reduceEqDiff, Nat.reduceLT, ↓reduceIte, hl, e3, e4, e6, e8, e9])⟩) ?_
  rintro envg36 _ ⟨rfl, hl, e3, e4, e6, e8, e9, e10⟩
  try simp only [↓WD, W0, evalOp, Nat.reduceEqDiff, Nat.reduceLT, ↓reduceIte, reduceCtorEq, hl, e3, e4, e6, e8, e9, e10]
  rw [AW_region]
  refine AE_joinR (fun e h' => h28 = h' ∧ e.length = 50 ∧ e.getD 3 .undef = .ptr i1 0 ∧ e.getD 4 .undef = .ptr i7 0 ∧ e.getD 6 .undef = .str y14.1 ∧ e.getD 8 .undef = .ptr i22 0 ∧ e.getD 9 .undef = .int .i64 0 ∧ e.getD 10 .undef = .int .i64 0 ∧ e.getD 20 .undef = .int .i64 0) (by
    simp only [↓WE, WA, WL, aop, ofValue, ofCell, isConst, abin, acall1, abuiltin, aun, AV.cells, AV.one, Nat.reduceAdd, Int.reduceLT, Int.reduceLE, ↓WD, W0, evalOp, Nat.reduceEqDiff, Nat.reduceLT, ↓reduceIte, reduceCtorEq, hl, e3, e4, e6, e8, e9, e10]
    exact ⟨rfl, (by simp only [List.length_set, hl]), (by simp only [W0, Nat.reduceEqDiff, Nat.reduceLT, ↓reduceIte, hl, e3, e4, e6, e8, e9, e10]), (by simp only [W0, Nat.reduceEqDiff, Nat.reduceLT, ↓reduceIte, hl, e3, e4, e6, e8, e9, e10]), (by simp only [W0, Nat.reduceEqDiff, Nat.reduceLT, ↓reduceIte, hl, e3, e4, e6, e8, e9, e10]), (by simp only [W0, Nat.reduceEqDiff, Nat.reduceLT, ↓reduceIte, hl, e3, e4, e6, e8, e9, e10]), (by simp only [W0, Nat.reduceEqDiff, Nat.reduceLT, ↓reduceIte, hl, e3, e4, e6, e8, e9, e10]), (by simp only [W0, Nat.reduceEqDiff, Nat.reduceLT, ↓reduceIte, hl, e3, e4, e6, e8, e9, e10]), (by simp only [W0, Nat.reduceEqDiff, Nat.reduceLT, ↓reduceIte, hl, e3, e4, e6, e8, e9, e10])⟩) ?_
  rintro envg37 _ ⟨rfl, hl, e3, e4, e6, e8, e9, e10, e20⟩
  try simp only [↓WD, W0, evalOp, Nat.reduceEqDiff, Nat.reduceLT, ↓reduceIte, reduceCtorEq, hl, e3, e4, e6, e8, e9, e10, e20]
  obtain ⟨r142, qr142, hF⟩ := obind hF
  refine AW_lift (L_extra_Resolve_1 n_0 n_1 n_2 y14) (fun s e h' => e.length = 50 ∧ e.getD 3 .undef = .ptr i1 0 ∧ e.getD 4 .undef = .ptr i7 0 ∧ e.getD 6 .undef = .str y14.1 ∧ e.getD 8 .undef = .ptr i22 0 ∧ e.getD 9 .undef = .int .i64 s.2.1 ∧ e.getD 10 .undef = .int .i64 s.2.2.1 ∧ e.getD 20 .undef = .int .i64 s.2.2.2 ∧ Sep h [] h' [.blk i1 ([n_0, n_1, n_2].map (AV.int .i64)) 53, .blk i7 ([0, 0, 0].map (AV.int .i64)) 53, .blk i22 (s.1.map (AV.int .i64)) 53]) (fun r142 x e h' => (∃ (t143 : (List Int) × Int), r142 = (.inl t143) ∧ x = .exit 0 ∧ e.length = 50 ∧ e.getD 4 .undef = .ptr i7 0 ∧ e.getD 8 .undef = .ptr i22 0 ∧ e.getD 10 .undef = .int .i64 t143.2 ∧ Sep h [] h' [.blk i7 ([0, 0, 0].map (AV.int .i64)) 53, .blk i22 (t143.1.map (AV.int .i64)) 53]) ∨ (∃ (t146 : Unit), r142 = (.inr t146) ∧ x = .ret ∧ e.length = 50 ∧ e.getD 4 .undef = .ptr i7 0 ∧ e.getD 5 .undef = .int .i64 2 ∧ Sep h [] h' [.blk i7 ([0, 0, 0].map (AV.int .i64)) 53])) qr142 (by omega) ?_ ?_ ?_
  · rintro s envr142 h90 or142 ⟨hl, e3, e4, e6, e8, e9, e10, e20, S91⟩ wr142
    rw [L_extra_Resolve_1] at wr142
    try simp only [↓WD, W0, evalOp, Nat.reduceEqDiff, Nat.reduceLT, ↓reduceIte, reduceCtorEq, hl, e3, e4, e6, e8, e9, e10, e20]
    rw [AW_region]
    refine AE_joinR (fun e h' => h90 = h' ∧ e.length = 50 ∧ e.getD 3 .undef = .ptr i1 0 ∧ e.getD 4 .undef = .ptr i7 0 ∧ e.getD 6 .undef = .str y14.1 ∧ e.getD 8 .undef = .ptr i22 0 ∧ e.getD 9 .undef = .int .i64 s.2.1 ∧ e.getD 10 .undef = .int .i64 s.2.2.1 ∧ e.getD 20 .undef = .int .i64 s.2.2.2 ∧ e.getD 21 .undef = .bool (decide (s.2.2.2 < 3))) (by
      simp only [↓WE, WA, WL, aop, ofValue, ofCell, isConst, abin, acall1, abuiltin, aun, AV.cells, AV.one, Nat.reduceAdd, Int.reduceLT, Int.reduceLE, ↓WD, W0, evalOp, Nat.reduceEqDiff, Nat.reduceLT, ↓reduceIte, reduceCtorEq, hl, e3, e4, e6, e8, e9, e10, e20]
      exact ⟨rfl, (by simp only [List.length_set, hl]), (by simp only [W0, Nat.reduceEqDiff, Nat.reduceLT, ↓reduceIte, hl, e3, e4, e6, e8, e9, e10, e20]), (by simp only [W0, Nat.reduceEqDiff, Nat.reduceLT, ↓reduceIte, hl, e3, e4, e6, e8, e9, e10, e20]), (by simp only [W0, Nat.reduceEqDiff, Nat.reduceLT, ↓reduceIte, hl, e3, e4, e6, e8, e9, e10, e20]), (by simp only [W0, Nat.reduceEqDiff, Nat.reduceLT, ↓reduceIte, hl, e3, e4, e6, e8, e9, e10, e20]), (by simp only [W0, Nat.reduceEqDiff, Nat.reduceLT, ↓reduceIte, hl, e3, e4, e6, e8, e9, e10, e20]), (by simp only [W0, Nat.reduceEqDiff, Nat.reduceLT, ↓reduceIte, hl, e3, e4, e6, e8, e9, e10, e20]), (by simp only [W0, Nat.reduceEqDiff, Nat.reduceLT, ↓reduceIte, hl, e3, e4, e6, e8, e9, e10, e20]), (by simp only [W0, Nat.reduceEqDiff, Nat.reduceLT, ↓reduceIte, hl, e3, e4, e6, e8, e9, e10, e20])⟩) ?_
    rintro envg92 _ ⟨rfl, hl, e3, e4, e6, e8, e9, e10, e20, e21⟩
    try simp only [↓WD, W0, evalOp, Nat.reduceEqDiff, Nat.reduceLT, ↓reduceIte, reduceCtorEq, hl, e3, e4, e6, e8, e9, e10, e20, e21]
    refine CondK_dec (fun c94 => ?_) (fun c94 => ?_)
    · rw [if_pos c94] at wr142
      try simp only [↓WD, W0, evalOp, Nat.reduceEqDiff, Nat.reduceLT, ↓reduceIte, reduceCtorEq, hl, e3, e4, e6, e8, e9, e10, e20, e21]
      rw [AW_region]
      refine AE_joinR (fun e h' => h90 = h' ∧ e.length = 50 ∧ e.getD 3 .undef = .ptr i1 0 ∧ e.getD 4 .undef = .ptr i7 0 ∧ e.getD 6 .undef = .str y14.1 ∧ e.getD 8 .undef = .ptr i22 0 ∧ e.getD 9 .undef = .int .i64 s.2.1 ∧ e.getD 10 .undef = .int .i64 s.2.2.1 ∧ e.getD 11 .undef = .int .i64 s.2.2.2 ∧ e.getD 20 .undef = .int .i64 s.2.2.2) (by
        simp only [↓WE, WA, WL, aop, ofValue, ofCell, isConst, abin, acall1, abuiltin, aun, AV.cells, AV.one, Nat.reduceAdd, Int.reduceLT, Int.reduceLE, ↓WD, W0, evalOp, Nat.reduceEqDiff, Nat.reduceLT, ↓reduceIte, reduceCtorEq, hl, e3, e4, e6, e8, e9, e10, e20, e21]
        exact ⟨rfl, (by simp only [List.length_set, hl]), (by simp only [W0, Nat.reduceEqDiff, Nat.reduceLT, ↓reduceIte, hl, e3, e4, e6, e8, e9, e10, e20, e21]), (by simp only [W0, Nat.reduceEqDiff, Nat.reduceLT, ↓reduceIte, hl, e3, e4, e6, e8, e9, e10, e20, e21]), (by simp only [W0, Nat.reduceEqDiff, Nat.reduceLT, ↓reduceIte, hl, e3, e4, e6, e8, e9, e10, e20, e21]), (by simp only [W0, Nat.reduceEqDiff, Nat.reduceLT, ↓reduceIte, hl, e3, e4, e6, e8, e9, e10, e20, e21]), (by simp only [W0, Nat.reduceEqDiff, Nat.reduceLT, ↓reduceIte, hl, e3, e4, e6, e8, e9, e10, e20, e21]), (by simp only [W0, Nat.reduceEqDiff, Nat.reduceLT, ↓reduceIte, hl, e3, e4, e6, e8, e9, e10, e20, e21]), (by simp only [W0, Nat.reduceEqDiff, Nat.reduceLT, ↓reduceIte, hl, e3, e4, e6, e8, e9, e10, e20, e21]), (by simp only [W0, Nat.reduceEqDiff, Nat.reduceLT, ↓reduceIte, hl, e3, e4, e6, e8, e9, e10, e20, e21])⟩) ?_
      rintro envg95 _ ⟨rfl, hl, e3, e4, e6, e8, e9, e10, e11, e20⟩
      try simp only [↓WD, W0, evalOp, Nat.reduceEqDiff, Nat.reduceLT, ↓reduceIte, reduceCtorEq, hl, e3, e4, e6, e8, e9, e10, e11, e20]
      rw [AW_region]
      obtain ⟨_, q96, wr142⟩ := obind wr142
      have oi97 := ia_53 i1 0 .i64 (chkIdx_lo q96) (chkIdx_hi q96)
      obtain ⟨y99, qy99, wr142⟩ := obind wr142
      have ol98 := S91.load (P := Try.prog) 0 rfl (t := 3) (apart_idxA ag_3 qy99)
      refine AE_joinR (fun e h' => h90 = h' ∧ e.length = 50 ∧ e.getD 3 .undef = .ptr i1 0 ∧ e.getD 4 .undef = .ptr i7 0 ∧ e.getD 6 .undef = .str y14.1 ∧ e.getD 8 .undef = .ptr i22 0 ∧ e.getD 9 .undef = .int .i64 s.2.1 ∧ e.getD 10 .undef = .int .i64 s.2.2.1 ∧ e.getD 11 .undef = .int .i64 s.2.2.2 ∧ e.getD 20 .undef = .int .i64 s.2.2.2 ∧ e.getD 26 .undef = .bool (y99 != 4294967295)) (by
        simp only [↓WE, WA, WL, aop, ofValue, ofCell, isConst, abin, acall1, abuiltin, aun, AV.cells, AV.one, Nat.reduceAdd, Int.reduceLT, Int.reduceLE, ↓WD, W0, evalOp, Nat.reduceEqDiff, Nat.reduceLT, ↓reduceIte, reduceCtorEq, hl, e3, e4, e6, e8, e9, e10, e11, e20, oi97, ol98]
        exact ⟨rfl, (by simp only [List.length_set, hl]), (by simp only [W0, Nat.reduceEqDiff, Nat.reduceLT, ↓reduceIte, hl, e3, e4, e6, e8, e9, e10, e11, e20]), (by simp only [W0, Nat.reduceEqDiff, Nat.reduceLT, ↓reduceIte, hl, e3, e4, e6, e8, e9, e10, e11, e20]), (by simp only [W0, Nat.reduceEqDiff, Nat.reduceLT, ↓reduceIte, hl, e3, e4, e6, e8, e9, e10, e11, e20]), (by simp only [W0, Nat.reduceEqDiff, Nat.reduceLT, ↓reduceIte, hl, e3, e4, e6, e8, e9, e10, e11, e20]), (by simp only [W0, Nat.reduceEqDiff, Nat.reduceLT, ↓reduceIte, hl, e3, e4, e6, e8, e9, e10, e11, e20]), (by simp only [W0, Nat.reduceEqDiff, Nat.reduceLT, ↓reduceIte, hl, e3, e4, e6, e8, e9, e10, e11, e20]), (by simp only [W0, Nat.reduceEqDiff, Nat.reduceLT, ↓reduceIte, hl, e3, e4, e6, e8, e9, e10, e11, e20]), (by simp only [W0, Nat.reduceEqDiff, Nat.reduceLT, ↓reduceIte, hl, e3, e4, e6, e8, e9, e10, e11, e20]), (by simp only [W0, Nat.reduceEqDiff, Nat.reduceLT, ↓reduceIte, hl, e3, e4, e6, e8, e9, e10, e11, e20])⟩) ?_
      rintro envg100 _ ⟨rfl, hl, e3, e4, e6, e8, e9, e10, e11, e20, e26⟩
      try simp only [↓WD, W0, evalOp, Nat.reduceEqDiff, Nat.reduceLT, ↓reduceIte, reduceCtorEq, hl, e3, e4, e6, e8, e9, e10, e11, e20, e26]
      refine CondK_boo (fun c103 => ?_) (fun c103 => ?_)
      · rw [if_pos c103] at wr142
        try simp only [↓WD, W0, evalOp, Nat.reduceEqDiff, Nat.reduceLT, ↓reduceIte, reduceCtorEq, hl, e3, e4, e6, e8, e9, e10, e11, e20, e26]
        rw [AW_region]
        refine AE_joinR (fun e h' => h90 = h' ∧ e.length = 50 ∧ e.getD 3 .undef = .ptr i1 0 ∧ e.getD 4 .undef = .ptr i7 0 ∧ e.getD 6 .undef = .str y14.1 ∧ e.getD 8 .undef = .ptr i22 0 ∧ e.getD 9 .undef = .int .i64 s.2.1 ∧ e.getD 10 .undef = .int .i64 s.2.2.1 ∧ e.getD 20 .undef = .int .i64 (IntKind.i64.wrap (s.2.2.2 + 1))) (by
          simp only [↓WE, WA, WL, aop, ofValue, ofCell, isConst, abin, acall1, abuiltin, aun, AV.cells, AV.one, Nat.reduceAdd, Int.reduceLT, Int.reduceLE, ↓WD, W0, evalOp, Nat.reduceEqDiff, Nat.reduceLT, ↓reduceIte, reduceCtorEq, hl, e3, e4, e6, e8, e9, e10, e11, e20, e26]
          exact ⟨rfl, (by simp only [List.length_set, hl]), (by simp only [W0, Nat.reduceEqDiff, Nat.reduceLT, ↓reduceIte, hl, e3, e4, e6, e8, e9, e10, e11, e20, e26]), (by simp only [W0, Nat.reduceEqDiff, Nat.reduceLT, ↓reduceIte, hl, e3, e4, e6, e8, e9, e10, e11, e20, e26]), (by simp only [W0, Nat.reduceEqDiff, Nat.reduceLT, ↓reduceIte, hl, e3, e4, e6, e8, e9, e10, e11, e20, e26]), (by simp only [W0, Nat.reduceEqDiff, Nat.reduceLT, ↓reduceIte, hl, e3, e4, e6, e8, e9, e10, e11, e20, e26]), (by simp only [W0, Nat.reduceEqDiff, Nat.reduceLT, ↓reduceIte, hl, e3, e4, e6, e8, e9, e10, e11, e20, e26]), (by simp only [W0, Nat.reduceEqDiff, Nat.reduceLT, ↓reduceIte, hl, e3, e4, e6, e8, e9, e10, e11, e20, e26]), (by simp only [W0, Nat.reduceEqDiff, Nat.reduceLT, ↓reduceIte, hl, e3, e4, e6, e8, e9, e10, e11, e20, e26])⟩) ?_
        rintro envg104 _ ⟨rfl, hl, e3, e4, e6, e8, e9, e10, e20⟩
        try simp only [↓WD, W0, evalOp, Nat.reduceEqDiff, Nat.reduceLT, ↓reduceIte, reduceCtorEq, hl, e3, e4, e6, e8, e9, e10, e20]
        obtain rfl := Option.some.inj wr142
        rw [KP_nil, QL_normal]
        exact ⟨_, rfl, (by simp only [List.length_set, hl]), (by simp only [W0, Nat.reduceEqDiff, Nat.reduceLT, ↓reduceIte, hl, e3, e4, e6, e8, e9, e10, e20]), (by simp only [W0, Nat.reduceEqDiff, Nat.reduceLT, ↓reduceIte, hl, e3, e4, e6, e8, e9, e10, e20]), (by simp only [W0, Nat.reduceEqDiff, Nat.reduceLT, ↓reduceIte, hl, e3, e4, e6, e8, e9, e10, e20]), (by simp only [W0, Nat.reduceEqDiff, Nat.reduceLT, ↓reduceIte, hl, e3, e4, e6, e8, e9, e10, e20]), (by simp only [W0, Nat.reduceEqDiff, Nat.reduceLT, ↓reduceIte, hl, e3, e4, e6, e8, e9, e10, e20]), (by simp only [W0, Nat.reduceEqDiff, Nat.reduceLT, ↓reduceIte, hl, e3, e4, e6, e8, e9, e10, e20]), (by simp only [W0, Nat.reduceEqDiff, Nat.reduceLT, ↓reduceIte, hl, e3, e4, e6, e8, e9, e10, e20]), S91⟩
      · rw [if_neg (nf c103)] at wr142
        try simp only [↓WD, W0, evalOp, Nat.reduceEqDiff, Nat.reduceLT, ↓reduceIte, reduceCtorEq, hl, e3, e4, e6, e8, e9, e10, e11, e20, e26]
        rw [AW_region]
        obtain ⟨y105, qy105, wr142⟩ := obind wr142
        have og106 := fun (D : Drawn) (n : Nat) (g : AH) => call_hook (P := Try.prog) (D := D) k18 n (args := [.str y14.1, .int .i64 s.2.1]) (v := .tup [.int .u64 y105.1, .int .i64 y105.2]) ((kf_18_eq y14.1 s.2.1).trans (by rw [qy105]; rfl)) g
        refine AE_joinR (fun e h' => h90 = h' ∧ e.length = 50 ∧ e.getD 3 .undef = .ptr i1 0 ∧ e.getD 4 .undef = .ptr i7 0 ∧ e.getD 6 .undef = .str y14.1 ∧ e.getD 8 .undef = .ptr i22 0 ∧ e.getD 9 .undef = .int .i64 s.2.1 ∧ e.getD 10 .undef = .int .i64 s.2.2.1 ∧ e.getD 11 .undef = .int .i64 s.2.2.2 ∧ e.getD 12 .undef = .int .u64 y105.1 ∧ e.getD 13 .undef = .int .i64 y105.2 ∧ e.getD 20 .undef = .int .i64 s.2.2.2) (by
          simp only [↓WE, WA, WL, aop, ofValue, ofCell, isConst, abin, acall1, abuiltin, aun, AV.cells, AV.one, Nat.reduceAdd, Int.reduceLT, Int.reduceLE, ↓WD, W0, evalOp, Nat.reduceEqDiff, Nat.reduceLT, ↓reduceIte, reduceCtorEq, hl, e3, e4, e6, e8, e9, e10, e11, e20, e26, og106]
          exact ⟨rfl, (by simp only [List.length_set, hl]), (by simp only [W0, Nat.reduceEqDiff, Nat.reduceLT, ↓reduceIte, hl, e3, e4, e6, e8, e9, e10, e11, e20, e26]), (by simp only [W0, Nat.reduceEqDiff, Nat.reduceLT, ↓reduceIte, hl, e3, e4, e6, e8, e9, e10, e11, e20, e26]), (by simp only [W0, Nat.reduceEqDiff, Nat.reduceLT, ↓reduceIte, hl, e3, e4, e6, e8, e9, e10, e11, e20, e26]), (by simp only [W0, Nat.reduceEqDiff, Nat.reduceLT, ↓reduceIte, hl, e3, e4, e6, e8, e9, e10, e11, e20, e26]), (by simp only [W0, Nat.reduceEqDiff, Nat.reduceLT, ↓reduceIte, hl, e3, e4, e6, e8, e9, e10, e11, e20, e26]), (by simp only [W0, Nat.reduceEqDiff, Nat.reduceLT, ↓reduceIte, hl, e3, e4, e6, e8, e9, e10, e11, e20, e26]), (by simp only [W0, Nat.reduceEqDiff, Nat.reduceLT, ↓reduceIte, hl, e3, e4, e6, e8, e9, e10, e11, e20, e26]), (by simp only [W0, Nat.reduceEqDiff, Nat.reduceLT, ↓reduceIte, hl, e3, e4, e6, e8, e9, e10, e11, e20, e26]), (by simp only [W0, Nat.reduceEqDiff, Nat.reduceLT, ↓reduceIte, hl, e3, e4, e6, e8, e9, e10, e11, e20, e26]), (by simp only [W0, Nat.reduceEqDiff, Nat.reduceLT, ↓reduceIte, hl, e3, e4, e6, e8, e9, e10, e11, e20, e26])⟩) ?_
        rintro envg107 _ ⟨rfl, hl, e3, e4, e6, e8, e9, e10, e11, e12, e13, e20⟩
        try simp only [↓WD, W0, evalOp, Nat.reduceEqDiff, Nat.reduceLT, ↓reduceIte, reduceCtorEq, hl, e3, e4, e6, e8, e9, e10, e11, e12, e13, e20]
        rw [AW_region]
        refine AE_joinR (fun e h' => h90 = h' ∧ e.length = 50 ∧ e.getD 3 .undef = .ptr i1 0 ∧ e.getD 4 .undef = .ptr i7 0 ∧ e.getD 6 .undef = .str y14.1 ∧ e.getD 8 .undef = .ptr i22 0 ∧ e.getD 9 .undef = .int .i64 s.2.1 ∧ e.getD 10 .undef = .int .i64 s.2.2.1 ∧ e.getD 11 .undef = .int .i64 s.2.2.2 ∧ e.getD 12 .undef = .int .u64 y105.1 ∧ e.getD 20 .undef = .int .i64 s.2.2.2 ∧ e.getD 34 .undef = .bool (y105.2 != 0)) (by
          simp only [↓WE, WA, WL, aop, ofValue, ofCell, isConst, abin, acall1, abuiltin, aun, AV.cells, AV.one, Nat.reduceAdd, Int.reduceLT, Int.reduceLE, ↓WD, W0, evalOp, Nat.reduceEqDiff, Nat.reduceLT, ↓reduceIte, reduceCtorEq, hl, e3, e4, e6, e8, e9, e10, e11, e12, e13, e20]
          exact ⟨rfl, (by simp only [List.length_set, hl]), (by simp only [W0, Nat.reduceEqDiff, Nat.reduceLT, ↓reduceIte, hl, e3, e4, e6, e8, e9, e10, e11, e12, e13, e20]), (by simp only [W0, Nat.reduceEqDiff, Nat.reduceLT, ↓reduceIte, hl, e3, e4, e6, e8, e9, e10, e11, e12, e13, e20]), (by simp only [W0, Nat.reduceEqDiff, Nat.reduceLT, ↓reduceIte, hl, e3, e4, e6, e8, e9, e10, e11, e12, e13, e20]), (by simp only [W0, Nat.reduceEqDiff, Nat.reduceLT, ↓reduceIte, hl, e3, e4, e6, e8, e9, e10, e11, e12, e13, e20]), (by simp only [W0, Nat.reduceEqDiff, Nat.reduceLT, ↓reduceIte, hl, e3, e4, e6, e8, e9, e10, e11, e12, e13, e20]), (by simp only [W0, Nat.reduceEqDiff, Nat.reduceLT, ↓reduceIte, hl, e3, e4, e6, e8, e9, e10, e11, e12, e13, e20]), (by simp only [W0, Nat.reduceEqDiff, Nat.reduceLT, ↓reduceIte, hl, e3, e4, e6, e8, e9, e10, e11, e12, e13, e20]), (by simp only [W0, Nat.reduceEqDiff, Nat.reduceLT, ↓reduceIte, hl, e3, e4, e6, e8, e9, e10, e11, e12, e13, e20]), (by simp only [W0, Nat.reduceEqDiff, Nat.reduceLT, ↓reduceIte, hl, e3, e4, e6, e8, e9, e10, e11, e12, e13, e20]), (by simp only [W0, Nat.reduceEqDiff, Nat.reduceLT, ↓reduceIte, hl, e3, e4, e6, e8, e9, e10, e11, e12, e13, e20])⟩) ?_
        rintro envg108 _ ⟨rfl, hl, e3, e4, e6, e8, e9, e10, e11, e12, e20, e34⟩
        try simp only [↓WD, W0, evalOp, Nat.reduceEqDiff, Nat.reduceLT, ↓reduceIte, reduceCtorEq, hl, e3, e4, e6, e8, e9, e10, e11, e12, e20, e34]
        refine CondK_boo (fun c117 => ?_) (fun c117 => ?_)
        · rw [if_pos c117] at wr142
          try simp only [↓WD, W0, evalOp, Nat.reduceEqDiff, Nat.reduceLT, ↓reduceIte, reduceCtorEq, hl, e3, e4, e6, e8, e9, e10, e11, e12, e20, e34]
          rw [AW_region]
          obtain ⟨_, q121, wr142⟩ := obind wr142
          obtain ⟨_, q122, wr142⟩ := obind wr142
          obtain ⟨h118, os119, S120⟩ := S91.storeAll (P := Try.prog) 1 rfl (t := 53) sz_53 q121 q122
          simp only [List.map_cons, List.map_nil] at os119
          have S123 : Sep h [] h118 [.blk i1 ([n_0, n_1, n_2].map (AV.int .i64)) 53, .blk i7 ([0, 0, 0].map (AV.int .i64)) 53, .blk i22 (s.1.map (AV.int .i64)) 53] := S120
          refine AE_joinR (fun e h' => h118 = h' ∧ e.length = 50 ∧ e.getD 4 .undef = .ptr i7 0 ∧ e.getD 5 .undef = .int .i64 2) (by
            simp only [↓WE, WA, WL, aop, ofValue, ofCell, isConst, abin, acall1, abuiltin, aun, AV.cells, AV.one, Nat.reduceAdd, Int.reduceLT, Int.reduceLE, ↓WD, W0, evalOp, Nat.reduceEqDiff, Nat.reduceLT, ↓reduceIte, reduceCtorEq, hl, e3, e4, e6, e8, e9, e10, e11, e12, e20, e34, bd_53, os119]
            exact ⟨rfl, (by simp only [List.length_set, hl]), (by simp only [W0, Nat.reduceEqDiff, Nat.reduceLT, ↓reduceIte, hl, e3, e4, e6, e8, e9, e10, e11, e12, e20, e34]), (by simp only [W0, Nat.reduceEqDiff, Nat.reduceLT, ↓reduceIte, hl, e3, e4, e6, e8, e9, e10, e11, e12, e20, e34])⟩) ?_
          rintro envg124 _ ⟨rfl, hl, e4, e5⟩
          try simp only [↓WD, W0, evalOp, Nat.reduceEqDiff, Nat.reduceLT, ↓reduceIte, reduceCtorEq, hl, e4, e5]
          obtain rfl := Option.some.inj wr142
          rw [KP_nil, QL_ret]
          exact ⟨_, rfl, .inr (⟨_, rfl, rfl, (by simp only [List.length_set, hl]), (by simp only [W0, Nat.reduceEqDiff, Nat.reduceLT, ↓reduceIte, hl, e4, e5]), (by simp only [W0, Nat.reduceEqDiff, Nat.reduceLT, ↓reduceIte, hl, e4, e5]), S123.pick [1] (by decide) rfl⟩)⟩
        · rw [if_neg (nf c117)] at wr142
          try simp only [↓WD, W0, evalOp, Nat.reduceEqDiff, Nat.reduceLT, ↓reduceIte, reduceCtorEq, hl, e3, e4, e6, e8, e9, e10, e11, e12, e20, e34]
          rw [AW_region]
          refine AE_joinR (fun e h' => h90 = h' ∧ e.length = 50 ∧ e.getD 3 .undef = .ptr i1 0 ∧ e.getD 4 .undef = .ptr i7 0 ∧ e.getD 6 .undef = .str y14.1 ∧ e.getD 8 .undef = .ptr i22 0 ∧ e.getD 9 .undef = .int .i64 s.2.1 ∧ e.getD 10 .undef = .int .i64 s.2.2.1 ∧ e.getD 11 .undef = .int .i64 s.2.2.2 ∧ e.getD 12 .undef = .int .u64 y105.1 ∧ e.getD 20 .undef = .int .i64 s.2.2.2 ∧ e.getD 37 .undef = .bool (decide (y105.1 > 1099511627776))) (by
            simp only [↓WE, WA, WL, aop, ofValue, ofCell, isConst, abin, acall1, abuiltin, aun, AV.cells, AV.one, Nat.reduceAdd, Int.reduceLT, Int.reduceLE, ↓WD, W0, evalOp, Nat.reduceEqDiff, Nat.reduceLT, ↓reduceIte, reduceCtorEq, hl, e3, e4, e6, e8, e9, e10, e11, e12, e20, e34]
            exact ⟨rfl, (by simp only [List.length_set, hl]), (by simp only [W0, Nat.reduceEqDiff, Nat.reduceLT, ↓reduceIte, hl, e3, e4, e6, e8, e9, e10, e11, e12, e20, e34]), (by simp only [W0, Nat.reduceEqDiff, Nat.reduceLT, ↓reduceIte, hl, e3, e4, e6, e8, e9, e10, e11, e12, e20, e34]), (by simp only [W0, Nat.reduceEqDiff, Nat.reduceLT, ↓reduceIte, hl, e3, e4, e6, e8, e9, e10, e11, e12, e20, e34]), (by simp only [W0, Nat.reduceEqDiff, Nat.reduceLT, ↓reduceIte, hl, e3, e4, e6, e8, e9, e10, e11, e12, e20, e34]), (by simp only [W0, Nat.reduceEqDiff, Nat.reduceLT, ↓reduceIte, hl, e3, e4, e6, e8, e9, e10, e11, e12, e20, e34]), (by simp only [W0, Nat.reduceEqDiff, Nat.reduceLT, ↓reduceIte, hl, e3, e4, e6, e8, e9, e10, e11, e12, e20, e34]), (by simp only [W0, Nat.reduceEqDiff, Nat.reduceLT, ↓reduceIte, hl, e3, e4, e6, e8, e9, e10, e11, e12, e20, e34]), (by simp only [W0, Nat.reduceEqDiff, Nat.reduceLT, ↓reduceIte, hl, e3, e4, e6, e8, e9, e10, e11, e12, e20, e34]), (by simp only [W0, Nat.reduceEqDiff, Nat.reduceLT, ↓reduceIte, hl, e3, e4, e6, e8, e9, e10, e11, e12, e20, e34]), (by simp only [W0, Nat.reduceEqDiff, Nat.reduceLT, ↓reduceIte, hl, e3, e4, e6, e8, e9, e10, e11, e12, e20, e34])⟩) ?_
          rintro envg125 _ ⟨rfl, hl, e3, e4, e6, e8, e9, e10, e11, e12, e20, e37⟩
          try simp only [↓WD, W0, evalOp, Nat.reduceEqDiff, Nat.reduceLT, ↓reduceIte, reduceCtorEq, hl, e3, e4, e6, e8, e9, e10, e11, e12, e20, e37]
          obtain ⟨j128, qj128, wr142⟩ := obind wr142
          refine CondK_join (fun e h' => e.length = 50 ∧ e.getD 3 .undef = .ptr i1 0 ∧ e.getD 4 .undef = .ptr i7 0 ∧ e.getD 6 .undef = .str y14.1 ∧ e.getD 8 .undef = .ptr i22 0 ∧ e.getD 9 .undef = .int .i64 s.2.1 ∧ e.getD 10 .undef = .int .i64 j128 ∧ e.getD 11 .undef = .int .i64 s.2.2.2 ∧ e.getD 12 .undef = .int .u64 y105.1 ∧ e.getD 20 .undef = .int .i64 s.2.2.2 ∧ Sep h [] h' [.blk i1 ([n_0, n_1, n_2].map (AV.int .i64)) 53, .blk i7 ([0, 0, 0].map (AV.int .i64)) 53, .blk i22 (s.1.map (AV.int .i64)) 53]) ?_ ?_
          · refine CondK_dec (fun c126 => ?_) (fun c126 => ?_)
            · rw [if_pos c126] at qj128
              try simp only [↓WD, W0, evalOp, Nat.reduceEqDiff, Nat.reduceLT, ↓reduceIte, reduceCtorEq, hl, e3, e4, e6, e8, e9, e10, e11, e12, e20, e37]
              rw [AW_region]
              refine AE_joinR (fun e h' => h90 = h' ∧ e.length = 50 ∧ e.getD 3 .undef = .ptr i1 0 ∧ e.getD 4 .undef = .ptr i7 0 ∧ e.getD 6 .undef = .str y14.1 ∧ e.getD 8 .undef = .ptr i22 0 ∧ e.getD 9 .undef = .int .i64 s.2.1 ∧ e.getD 10 .undef = .int .i64 7 ∧ e.getD 11 .undef = .int .i64 s.2.2.2 ∧ e.getD 12 .undef = .int .u64 y105.1 ∧ e.getD 20 .undef = .int .i64 s.2.2.2) (by
                simp only [↓WE, WA, WL, aop, ofValue, ofCell, isConst, abin, acall1, abuiltin, aun, AV.cells, AV.one, Nat.reduceAdd, Int.reduceLT, Int.reduceLE, ↓WD, W0, evalOp, Nat.reduceEqDiff, Nat.reduceLT, ↓reduceIte, reduceCtorEq, hl, e3, e4, e6, e8, e9, e10, e11, e12, e20, e37]
                exact ⟨rfl, (by simp only [List.length_set, hl]), (by simp only [W0, Nat.reduceEqDiff, Nat.reduceLT, ↓reduceIte, hl, e3, e4, e6, e8, e9, e10, e11, e12, e20, e37]), (by simp only [W0, Nat.reduceEqDiff, Nat.reduceLT, ↓reduceIte, hl, e3, e4, e6, e8, e9, e10, e11, e12, e20, e37]), (by simp only [W0, Nat.reduceEqDiff, Nat.reduceLT, ↓reduceIte, hl, e3, e4, e6, e8, e9, e10, e11, e12, e20, e37]), (by simp only [W0, Nat.reduceEqDiff, Nat.reduceLT, ↓reduceIte, hl, e3, e4, e6, e8, e9, e10, e11, e12, e20, e37]), (by simp only [W0, Nat.reduceEqDiff, Nat.reduceLT, ↓reduceIte, hl, e3, e4, e6, e8, e9, e10, e11, e12, e20, e37]), (by simp only [W0, Nat.reduceEqDiff, Nat.reduceLT, ↓reduceIte, hl, e3, e4, e6, e8, e9, e10, e11, e12, e20, e37]), (by simp only [W0, Nat.reduceEqDiff, Nat.reduceLT, ↓reduceIte, hl, e3, e4, e6, e8, e9, e10, e11, e12, e20, e37]), (by simp only [W0, Nat.reduceEqDiff, Nat.reduceLT, ↓reduceIte, hl, e3, e4, e6, e8, e9, e10, e11, e12, e20, e37]), (by simp only [W0, Nat.reduceEqDiff, Nat.reduceLT, ↓reduceIte, hl, e3, e4, e6, e8, e9, e10, e11, e12, e20, e37])⟩) ?_
              rintro envg127 _ ⟨rfl, hl, e3, e4, e6, e8, e9, e10, e11, e12, e20⟩
              try simp only [↓WD, W0, evalOp, Nat.reduceEqDiff, Nat.reduceLT, ↓reduceIte, reduceCtorEq, hl, e3, e4, e6, e8, e9, e10, e11, e12, e20]
              rw [KP_nil, KJ_normal]
              obtain rfl := Option.some.inj qj128
              exact ⟨(by simp only [List.length_set, hl]), (by simp only [W0, Nat.reduceEqDiff, Nat.reduceLT, ↓reduceIte, hl, e3, e4, e6, e8, e9, e10, e11, e12, e20]), (by simp only [W0, Nat.reduceEqDiff, Nat.reduceLT, ↓reduceIte, hl, e3, e4, e6, e8, e9, e10, e11, e12, e20]), (by simp only [W0, Nat.reduceEqDiff, Nat.reduceLT, ↓reduceIte, hl, e3, e4, e6, e8, e9, e10, e11, e12, e20]), (by simp only [W0, Nat.reduceEqDiff, Nat.reduceLT, ↓reduceIte, hl, e3, e4, e6, e8, e9, e10, e11, e12, e20]), (by simp only [W0, Nat.reduceEqDiff, Nat.reduceLT, ↓reduceIte, hl, e3, e4, e6, e8, e9, e10, e11, e12, e20]), (by simp only [W0, Nat.reduceEqDiff, Nat.reduceLT, ↓reduceIte, hl, e3, e4, e6, e8, e9, e10, e11, e12, e20]), (by simp only [W0, Nat.reduceEqDiff, Nat.reduceLT, ↓reduceIte, hl, e3, e4, e6, e8, e9, e10, e11, e12, e20]), (by simp only [W0, Nat.reduceEqDiff, Nat.reduceLT, ↓reduceIte, hl, e3, e4, e6, e8, e9, e10, e11, e12, e20]), (by simp only [W0, Nat.reduceEqDiff, Nat.reduceLT, ↓reduceIte, hl, e3, e4, e6, e8, e9, e10, e11, e12, e20]), S91⟩
            · rw [if_neg c126] at qj128
              try simp only [↓WD, W0, evalOp, Nat.reduceEqDiff, Nat.reduceLT, ↓reduceIte, reduceCtorEq, hl, e3, e4, e6, e8, e9, e10, e11, e12, e20, e37]
              rw [KP_nil, KJ_normal]
              obtain rfl := Option.some.inj qj128
              exact ⟨(by simp only [List.length_set, hl]), (by simp only [W0, Nat.reduceEqDiff, Nat.reduceLT, ↓reduceIte, hl, e3, e4, e6, e8, e9, e10, e11, e12, e20, e37]), (by simp only [W0, Nat.reduceEqDiff, Nat.reduceLT, ↓reduceIte, hl, e3, e4, e6, e8, e9, e10, e11, e12, e20, e37]), (by simp only [W0, Nat.reduceEqDiff, Nat.reduceLT, ↓reduceIte, hl, e3, e4, e6, e8, e9, e10, e11, e12, e20, e37]), (by simp only [W0, Nat.reduceEqDiff, Nat.reduceLT, ↓reduceIte, hl, e3, e4, e6, e8, e9, e10, e11, e12, e20, e37]), (by simp only [W0, Nat.reduceEqDiff, Nat.reduceLT, ↓reduceIte, hl, e3, e4, e6, e8, e9, e10, e11, e12, e20, e37]), (by simp only [W0, Nat.reduceEqDiff, Nat.reduceLT, ↓reduceIte, hl, e3, e4, e6, e8, e9, e10, e11, e12, e20, e37]), (by simp only [W0, Nat.reduceEqDiff, Nat.reduceLT, ↓reduceIte, hl, e3, e4, e6, e8, e9, e10, e11, e12, e20, e37]), (by simp only [W0, Nat.reduceEqDiff, Nat.reduceLT, ↓reduceIte, hl, e3, e4, e6, e8, e9, e10, e11, e12, e20, e37]), (by simp only [W0, Nat.reduceEqDiff, Nat.reduceLT, ↓reduceIte, hl, e3, e4, e6, e8, e9, e10, e11, e12, e20, e37]), S91⟩
          · rintro envj128 h130 ⟨hl, e3, e4, e6, e8, e9, e10, e11, e12, e20, S129⟩
            try simp only [↓WD, W0, evalOp, Nat.reduceEqDiff, Nat.reduceLT, ↓reduceIte, reduceCtorEq, hl, e3, e4, e6, e8, e9, e10, e11, e12, e20]
            rw [AW_region]
            have oc131 := fun g : AH => aconv_int (P := Try.prog) (h := g) (n := y105.1) (k' := .u64) Try.underlying25 Try.underlying3
            obtain ⟨_, q132, wr142⟩ := obind wr142
            have oi133 := ia_53 i22 0 .i64 (chkIdx_lo q132) (chkIdx_hi q132)
            obtain ⟨y137, qy137, wr142⟩ := obind wr142
            obtain ⟨h134, os135, S136⟩ := S129.storeA (P := Try.prog) 2 rfl sz_3 qy137
            have S138 : Sep h [] h134 [.blk i1 ([n_0, n_1, n_2].map (AV.int .i64)) 53, .blk i7 ([0, 0, 0].map (AV.int .i64)) 53, .blk i22 (y137.map (AV.int .i64)) 53] := S136
            refine AE_joinR (fun e h' => h134 = h' ∧ e.length = 50 ∧ e.getD 3 .undef = .ptr i1 0 ∧ e.getD 4 .undef = .ptr i7 0 ∧ e.getD 6 .undef = .str y14.1 ∧ e.getD 8 .undef = .ptr i22 0 ∧ e.getD 9 .undef = .int .i64 s.2.1 ∧ e.getD 10 .undef = .int .i64 j128 ∧ e.getD 20 .undef = .int .i64 s.2.2.2) (by
              simp only [↓WE, WA, WL, aop, ofValue, ofCell, isConst, abin, acall1, abuiltin, aun, AV.cells, AV.one, Nat.reduceAdd, Int.reduceLT, Int.reduceLE, ↓WD, W0, evalOp, Nat.reduceEqDiff, Nat.reduceLT, ↓reduceIte, reduceCtorEq, hl, e3, e4, e6, e8, e9, e10, e11, e12, e20, oc131, oi133, os135]
              exact ⟨rfl, (by simp only [List.length_set, hl]), (by simp only [W0, Nat.reduceEqDiff, Nat.reduceLT, ↓reduceIte, hl, e3, e4, e6, e8, e9, e10, e11, e12, e20]), (by simp only [W0, Nat.reduceEqDiff, Nat.reduceLT, ↓reduceIte, hl, e3, e4, e6, e8, e9, e10, e11, e12, e20]), (by simp only [W0, Nat.reduceEqDiff, Nat.reduceLT, ↓reduceIte, hl, e3, e4, e6, e8, e9, e10, e11, e12, e20]), (by simp only [W0, Nat.reduceEqDiff, Nat.reduceLT, ↓reduceIte, hl, e3, e4, e6, e8, e9, e10, e11, e12, e20]), (by simp only [W0, Nat.reduceEqDiff, Nat.reduceLT, ↓reduceIte, hl, e3, e4, e6, e8, e9, e10, e11, e12, e20]), (by simp only [W0, Nat.reduceEqDiff, Nat.reduceLT, ↓reduceIte, hl, e3, e4, e6, e8, e9, e10, e11, e12, e20]), (by simp only [W0, Nat.reduceEqDiff, Nat.reduceLT, ↓reduceIte, hl, e3, e4, e6, e8, e9, e10, e11, e12, e20])⟩) ?_
            rintro envg139 _ ⟨rfl, hl, e3, e4, e6, e8, e9, e10, e20⟩
            try simp only [↓WD, W0, evalOp, Nat.reduceEqDiff, Nat.reduceLT, ↓reduceIte, reduceCtorEq, hl, e3, e4, e6, e8, e9, e10, e20]
            rw [AW_region]
            refine AE_joinR (fun e h' => h134 = h' ∧ e.length = 50 ∧ e.getD 3 .undef = .ptr i1 0 ∧ e.getD 4 .undef = .ptr i7 0 ∧ e.getD 6 .undef = .str y14.1 ∧ e.getD 8 .undef = .ptr i22 0 ∧ e.getD 9 .undef = .int .i64 (IntKind.i64.wrap (s.2.1 + 8)) ∧ e.getD 10 .undef = .int .i64 j128 ∧ e.getD 20 .undef = .int .i64 s.2.2.2) (by
              simp only [↓WE, WA, WL, aop, ofValue, ofCell, isConst, abin, acall1, abuiltin, aun, AV.cells, AV.one, Nat.reduceAdd, Int.reduceLT, Int.reduceLE, ↓WD, W0, evalOp, Nat.reduceEqDiff, Nat.reduceLT, ↓reduceIte, reduceCtorEq, hl, e3, e4, e6, e8, e9, e10, e20]
              exact ⟨rfl, (by simp only [List.length_set, hl]), (by simp only [W0, Nat.reduceEqDiff, Nat.reduceLT, ↓reduceIte, hl, e3, e4, e6, e8, e9, e10, e20]), (by simp only [W0, Nat.reduceEqDiff, Nat.reduceLT, ↓reduceIte, hl, e3, e4, e6, e8, e9, e10, e20]), (by simp only [W0, Nat.reduceEqDiff, Nat.reduceLT, ↓reduceIte, hl, e3, e4, e6, e8, e9, e10, e20]), (by simp only [W0, Nat.reduceEqDiff, Nat.reduceLT, ↓reduceIte, hl, e3, e4, e6, e8, e9, e10, e20]), (by simp only [W0, Nat.reduceEqDiff, Nat.reduceLT, ↓reduceIte, hl, e3, e4, e6, e8, e9, e10, e20]), (by simp only [W0, Nat.reduceEqDiff, Nat.reduceLT, ↓reduceIte, hl, e3, e4, e6, e8, e9, e10, e20]), (by simp only [W0, Nat.reduceEqDiff, Nat.reduceLT, ↓reduceIte, hl, e3, e4, e6, e8, e9, e10, e20])⟩) ?_
            rintro envg140 _ ⟨rfl, hl, e3, e4, e6, e8, e9, e10, e20⟩
            try simp only [↓WD, W0, evalOp, Nat.reduceEqDiff, Nat.reduceLT, ↓reduceIte, reduceCtorEq, hl, e3, e4, e6, e8, e9, e10, e20]
            rw [AW_region]
            refine AE_joinR (fun e h' => h134 = h' ∧ e.length = 50 ∧ e.getD 3 .undef = .ptr i1 0 ∧ e.getD 4 .undef = .ptr i7 0 ∧ e.getD 6 .undef = .str y14.1 ∧ e.getD 8 .undef = .ptr i22 0 ∧ e.getD 9 .undef = .int .i64 (IntKind.i64.wrap (s.2.1 + 8)) ∧ e.getD 10 .undef = .int .i64 j128 ∧ e.getD 20 .undef = .int .i64 (IntKind.i64.wrap (s.2.2.2 + 1))) (by
              simp only [↓WE, WA, WL, aop, ofValue, ofCell, isConst, abin, acall1, abuiltin, aun, AV.cells, AV.one, Nat.reduceAdd, Int.reduceLT, Int.reduceLE, ↓WD, W0, evalOp, Nat.reduceEqDiff, Nat.reduceLT, ↓reduceIte, reduceCtorEq, hl, e3, e4, e6, e8, e9, e10, e20]
              exact ⟨rfl, (by simp only [List.length_set, hl]), (by simp only [W0, Nat.reduceEqDiff, Nat.reduceLT, ↓reduceIte, hl, e3, e4, e6, e8, e9, e10, e20]), (by simp only [W0, Nat.reduceEqDiff, Nat.reduceLT, ↓reduceIte, hl, e3, e4, e6, e8, e9, e10, e20]), (by simp only [W0, Nat.reduceEqDiff, Nat.reduceLT, ↓reduceIte, hl, e3, e4, e6, e8, e9, e10, e20]), (by simp only [W0, Nat.reduceEqDiff, Nat.reduceLT, ↓reduceIte, hl, e3, e4, e6, e8, e9, e10, e20]), (by simp only [W0, Nat.reduceEqDiff, Nat.reduceLT, ↓reduceIte, hl, e3, e4, e6, e8, e9, e10, e20]), (by simp only [W0, Nat.reduceEqDiff, Nat.reduceLT, ↓reduceIte, hl, e3, e4, e6, e8, e9, e10, e20]), (by simp only [W0, Nat.reduceEqDiff, Nat.reduceLT, ↓reduceIte, hl, e3, e4, e6, e8, e9, e10, e20])⟩) ?_
            rintro envg141 _ ⟨rfl, hl, e3, e4, e6, e8, e9, e10, e20⟩
            try simp only [↓WD, W0, evalOp, Nat.reduceEqDiff, Nat.reduceLT, ↓reduceIte, reduceCtorEq, hl, e3, e4, e6, e8, e9, e10, e20]
            obtain rfl := Option.some.inj wr142
            rw [KP_nil, QL_normal]
            exact ⟨_, rfl, (by simp only [List.length_set, hl]), (by simp only [W0, Nat.reduceEqDiff, Nat.reduceLT, ↓reduceIte, hl, e3, e4, e6, e8, e9, e10, e20]), (by simp only [W0, Nat.reduceEqDiff, Nat.reduceLT, ↓reduceIte, hl, e3, e4, e6, e8, e9, e10, e20]), (by simp only [W0, Nat.reduceEqDiff, Nat.reduceLT, ↓reduceIte, hl, e3, e4, e6, e8, e9, e10, e20]), (by simp only [W0, Nat.reduceEqDiff, Nat.reduceLT, ↓reduceIte, hl, e3, e4, e6, e8, e9, e10, e20]), (by simp only [W0, Nat.reduceEqDiff, Nat.reduceLT, ↓reduceIte, hl, e3, e4, e6, e8, e9, e10, e20]), (by simp only [W0, Nat.reduceEqDiff, Nat.reduceLT, ↓reduceIte, hl, e3, e4, e6, e8, e9, e10, e20]), (by simp only [W0, Nat.reduceEqDiff, Nat.reduceLT, ↓reduceIte, hl, e3, e4, e6, e8, e9, e10, e20]), S138⟩
    · rw [if_neg c94] at wr142
      try simp only [↓WD, W0, evalOp, Nat.reduceEqDiff, Nat.reduceLT, ↓reduceIte, reduceCtorEq, hl, e3, e4, e6, e8, e9, e10, e20, e21]
      obtain rfl := Option.some.inj wr142
      rw [KP_nil, QL_exit]
      exact ⟨_, rfl, .inl ⟨_, rfl, rfl, (by simp only [List.length_set, hl]), (by simp only [W0, Nat.reduceEqDiff, Nat.reduceLT, ↓reduceIte, hl, e3, e4, e6, e8, e9, e10, e20, e21]), (by simp only [W0, Nat.reduceEqDiff, Nat.reduceLT, ↓reduceIte, hl, e3, e4, e6, e8, e9, e10, e20, e21]), (by simp only [W0, Nat.reduceEqDiff, Nat.reduceLT, ↓reduceIte, hl, e3, e4, e6, e8, e9, e10, e20, e21]), S91.pick [1, 2] (by decide) rfl⟩⟩
  · exact ⟨(by simp only [List.length_set, hl]), (by simp only [W0, Nat.reduceEqDiff, Nat.reduceLT, ↓reduceIte, hl, e3, e4, e6, e8, e9, e10, e20]), (by simp only [W0, Nat.reduceEqDiff, Nat.reduceLT, ↓reduceIte, hl, e3, e4, e6, e8, e9, e10, e20]), (by simp only [W0, Nat.reduceEqDiff, Nat.reduceLT, ↓reduceIte, hl, e3, e4, e6, e8, e9, e10, e20]), (by simp only [W0, Nat.reduceEqDiff, Nat.reduceLT, ↓reduceIte, hl, e3, e4, e6, e8, e9, e10, e20]), (by simp only [W0, Nat.reduceEqDiff, Nat.reduceLT, ↓reduceIte, hl, e3, e4, e6, e8, e9, e10, e20]), (by simp only [W0, Nat.reduceEqDiff, Nat.reduceLT, ↓reduceIte, hl, e3, e4, e6, e8, e9, e10, e20]), (by simp only [W0, Nat.reduceEqDiff, Nat.reduceLT, ↓reduceIte, hl, e3, e4, e6, e8, e9, e10, e20]), S33⟩
  · intro x envr142 h144 hk
    rcases hk with ⟨t143, rfl, rfl, hl, e4, e8, e10, S145⟩ | ⟨t146, rfl, rfl, hl, e4, e5, S148⟩
    · skip
      rw [sumK_inl] at hF
      try simp only [↓WD, W0, evalOp, Nat.reduceEqDiff, Nat.reduceLT, ↓reduceIte, reduceCtorEq, hl, e4, e8, e10]
      rw [AW_region]
      refine AE_joinR (fun e h' => h144 = h' ∧ e.length = 50 ∧ e.getD 4 .undef = .ptr i7 0 ∧ e.getD 8 .undef = .ptr i22 0 ∧ e.getD 10 .undef = .int .i64 t143.2 ∧ e.getD 46 .undef = .bool (t143.2 != 0)) (by
        simp only [↓WE, WA, WL, aop, ofValue, ofCell, isConst, abin, acall1, abuiltin, aun, AV.cells, AV.one, Nat.reduceAdd, Int.reduceLT, Int.reduceLE, ↓WD, W0, evalOp, Nat.reduceEqDiff, Nat.reduceLT, ↓reduceIte, reduceCtorEq, hl, e4, e8, e10]
        exact ⟨rfl, (by simp only [List.length_set, hl]), (by simp only [W0, Nat.reduceEqDiff, Nat.reduceLT, ↓reduceIte, hl, e4, e8, e10]), (by simp only [W0, Nat.reduceEqDiff, Nat.reduceLT, ↓reduceIte, hl, e4, e8, e10]), (by simp only [W0, Nat.reduceEqDiff, Nat.reduceLT, ↓reduceIte, hl, e4, e8, e10]), (by simp only [W0, Nat.reduceEqDiff, Nat.reduceLT, ↓reduceIte, hl, e4, e8, e10])⟩) ?_
      rintro envg149 _ ⟨rfl, hl, e4, e8, e10, e46⟩
      try simp only [↓WD, W0, evalOp, Nat.reduceEqDiff, Nat.reduceLT, ↓reduceIte, reduceCtorEq, hl, e4, e8, e10, e46]
      refine CondK_boo (fun c159 => ?_) (fun c159 => ?_)
      · rw [if_pos c159] at hF
        try simp only [↓WD, W0, evalOp, Nat.reduceEqDiff, Nat.reduceLT, ↓reduceIte, reduceCtorEq, hl, e4, e8, e10, e46]
        rw [AW_region]
        obtain ⟨_, q163, hF⟩ := obind hF
        obtain ⟨_, q164, hF⟩ := obind hF
        obtain ⟨h160, os161, S162⟩ := S145.storeAll (P := Try.prog) 0 rfl (t := 53) sz_53 q163 q164
        simp only [List.map_cons, List.map_nil] at os161
        have S165 : Sep h [] h160 [.blk i7 ([0, 0, 0].map (AV.int .i64)) 53, .blk i22 (t143.1.map (AV.int .i64)) 53] := S162
        refine AE_joinR (fun e h' => h160 = h' ∧ e.length = 50 ∧ e.getD 4 .undef = .ptr i7 0 ∧ e.getD 5 .undef = .int .i64 t143.2) (by
          simp only [↓WE, WA, WL, aop, ofValue, ofCell, isConst, abin, acall1, abuiltin, aun, AV.cells, AV.one, Nat.reduceAdd, Int.reduceLT, Int.reduceLE, ↓WD, W0, evalOp, Nat.reduceEqDiff, Nat.reduceLT, ↓reduceIte, reduceCtorEq, hl, e4, e8, e10, e46, bd_53, os161]
          exact ⟨rfl, (by simp only [List.length_set, hl]), (by simp only [W0, Nat.reduceEqDiff, Nat.reduceLT, ↓reduceIte, hl, e4, e8, e10, e46]), (by simp only [W0, Nat.reduceEqDiff, Nat.reduceLT, ↓reduceIte, hl, e4, e8, e10, e46])⟩) ?_
        rintro envg166 _ ⟨rfl, hl, e4, e5⟩
        try simp only [↓WD, W0, evalOp, Nat.reduceEqDiff, Nat.reduceLT, ↓reduceIte, reduceCtorEq, hl, e4, e5]
        obtain ⟨_, qol167, hF⟩ := obind hF
        have ol167 := S165.load (P := Try.prog) 0 rfl (t := 53) (apart_all ag_53 sz_53 qol167)
        simp only [List.map_cons, List.map_nil] at ol167
        refine KP_ret (vs := [.agg [.int .i64 0, .int .i64 0, .int .i64 0], .int .i64 t143.2]) (by simp only [aresults, aresult, gs, List.length_set, Nat.reduceEqDiff, Nat.reduceLT, ↓reduceIte, hl, e4, e5, ol167]) ?_
        obtain rfl := Option.some.inj hF
        exact ⟨rfl, S165.pick [] (by decide) rfl⟩
      · rw [if_neg (nf c159)] at hF
        try simp only [↓WD, W0, evalOp, Nat.reduceEqDiff, Nat.reduceLT, ↓reduceIte, reduceCtorEq, hl, e4, e8, e10, e46]
        rw [AW_region]
        obtain ⟨_, qol168, hF⟩ := obind hF
        have ol168 := S145.load (P := Try.prog) 1 rfl (t := 53) (apart_all ag_53 sz_53 qol168)
        obtain ⟨_, q172, hF⟩ := obind hF
        obtain ⟨_, q173, hF⟩ := obind hF
        obtain ⟨h169, os170, S171⟩ := S145.storeAll (P := Try.prog) 0 rfl (t := 53) sz_53 q172 q173
        have S174 : Sep h [] h169 [.blk i7 (t143.1.map (AV.int .i64)) 53, .blk i22 (t143.1.map (AV.int .i64)) 53] := S171
        refine AE_joinR (fun e h' => h169 = h' ∧ e.length = 50 ∧ e.getD 4 .undef = .ptr i7 0 ∧ e.getD 5 .undef = .int .i64 0) (by
          simp only [↓WE, WA, WL, aop, ofValue, ofCell, isConst, abin, acall1, abuiltin, aun, AV.cells, AV.one, Nat.reduceAdd, Int.reduceLT, Int.reduceLE, ↓WD, W0, evalOp, Nat.reduceEqDiff, Nat.reduceLT, ↓reduceIte, reduceCtorEq, hl, e4, e8, e10, e46, ol168, os170]
          exact ⟨rfl, (by simp only [List.length_set, hl]), (by simp only [W0, Nat.reduceEqDiff, Nat.reduceLT, ↓reduceIte, hl, e4, e8, e10, e46]), (by simp only [W0, Nat.reduceEqDiff, Nat.reduceLT, ↓reduceIte, hl, e4, e8, e10, e46])⟩) ?_
        rintro envg175 _ ⟨rfl, hl, e4, e5⟩
        try simp only [↓WD, W0, evalOp, Nat.reduceEqDiff, Nat.reduceLT, ↓reduceIte, reduceCtorEq, hl, e4, e5]
        obtain ⟨_, qol176, hF⟩ := obind hF
        have ol176 := S174.load (P := Try.prog) 0 rfl (t := 53) (apart_all ag_53 sz_53 qol176)
        refine KP_ret (vs := [.agg (t143.1.map (AV.int .i64)), .int .i64 0]) (by simp only [aresults, aresult, gs, List.length_set, Nat.reduceEqDiff, Nat.reduceLT, ↓reduceIte, hl, e4, e5, ol176]) ?_
        obtain rfl := Option.some.inj hF
        exact ⟨rfl, S174.pick [] (by decide) rfl⟩
    · skip
      rw [sumK_inr] at hF
      try simp only [↓WD, W0, evalOp, Nat.reduceEqDiff, Nat.reduceLT, ↓reduceIte, reduceCtorEq, hl, e4, e5]
      obtain ⟨_, qol177, hF⟩ := obind hF
      have ol177 := S148.load (P := Try.prog) 0 rfl (t := 53) (apart_all ag_53 sz_53 qol177)
      simp only [List.map_cons, List.map_nil] at ol177
      refine KP_ret (vs := [.agg [.int .i64 0, .int .i64 0, .int .i64 0], .int .i64 2]) (by simp only [aresults, aresult, gs, List.length_set, Nat.reduceEqDiff, Nat.reduceLT, ↓reduceIte, hl, e4, e5, ol177]) ?_
      obtain rfl := Option.some.inj hF
      exact ⟨rfl, S148.pick [] (by decide) rfl⟩
set_option maxRecDepth 100000 in
set_option maxHeartbeats 4000000 in
theorem W_law17_awake {K : PureK} (k13 : K 13 = some kf_13) (k15 : K 15 = some kf_15) (k16 : K 16 = some kf_16) (k18 : K 18 = some kf_18) (k47 : K 47 = some kf_47) (k77 : K 77 = some hb77) (n21 : K 21 = none) (n24 : K 24 = none) (n26 : K 26 = none) (n28 : K 28 = none) (n30 : K 30 = none) (n50 : K 50 = none) (n51 : K 51 = none) (n52 : K 52 = none) (n69 : K 69 = none) (n20 : K 20 = none) (m : Nat) (hm : NF + 5 ≤ m) (h : AH)  {r : Bool} (hF : F_law17_awake  = some r) :
    AR (acall Try.prog (hooksOf K) (drawnOf Try.prog (tabOf K)) m 20 [] h) (fun v h' => v = .bool r ∧ Sep h [] h' []) := by
  obtain ⟨m, rfl⟩ : ∃ k, m = k + 1 := ⟨m - 1, by omega⟩
  refine AR_call (hooksOf_none n20) Try.func20 rfl _ _ fun env hl he => ?_
  simp only [Try.f20] at hl ⊢
  simp only [List.length_cons, List.length_nil, Nat.reduceAdd, Nat.reduceSub] at hl
  clear he
  have S0 : Sep h [] h [] := Sep.nil h
  rw [F_law17_awake] at hF
  try simp only [↓WD, W0, evalOp, Nat.reduceEqDiff, Nat.reduceLT, ↓reduceIte, reduceCtorEq, hl]
  rw [AW_region]
  refine AE_joinR (fun e h' => h = h' ∧ e.length = 63) (by
    simp only [↓WE, WA, WL, aop, ofValue, ofCell, isConst, abin, acall1, abuiltin, aun, AV.cells, AV.one, Nat.reduceAdd, Int.reduceLT, Int.reduceLE, ↓WD, W0, evalOp, Nat.reduceEqDiff, Nat.reduceLT, ↓reduceIte, reduceCtorEq, hl]
    exact ⟨rfl, (by simp only [List.length_set, hl])⟩) ?_
  rintro envg1 _ ⟨rfl, hl⟩
  try simp only [↓WD, W0, evalOp, Nat.reduceEqDiff, Nat.reduceLT, ↓reduceIte, reduceCtorEq, hl]
  rw [AW_region]
  obtain ⟨u2, h3, ob4, S5⟩ := Sep.build (P := Try.prog) sl_52 S0 [.int .i64 5, .int .i64 6] (([5, 6] : List Int).map (cellI .i64)) rfl (by simp [cellI]) (by simp)
  have ob4 : abuildSlice Try.prog 52 2 [(0, .int .i64 5), (1, .int .i64 6)] h = some (u2, h3) := ob4
  have S7 : Sep h [] h3 [.row u2 3 1 (([5, 6] : List Int).map (cellI .i64))] := S5
  obtain ⟨y8, qy8, hF⟩ := obind hF
  obtain ⟨v12, h10, og9, rfl, S11⟩ := (W_extra_Wide k15 k77 n50 n52 n69 n30 m (by omega) h3 u2 ([5, 6] : List Int) (S7.row_ro (i := 0) rfl) qy8).out
  have S13 : Sep h [] h10 [.row u2 3 1 (([5, 6] : List Int).map (cellI .i64))] := S7.call0 S11
  obtain ⟨u14, h15, ob16, S17⟩ := Sep.build (P := Try.prog) sl_35 S13 [.agg [.int .i64 9, .str [120]], .agg [.int .i64 y8.xID, .str y8.xData]] (([(⟨9, [120]⟩ : Gapi_Extra), y8] : List Gapi_Extra).map Gapi_Extra.cells) rfl (by simp [Gapi_Extra.cells]) (by simp)
  have ob16 : abuildSlice Try.prog 35 2 [(0, .agg [.int .i64 9, .str [120]]), (1, .agg [.int .i64 y8.xID, .str y8.xData])] h10 = some (u14, h15) := ob16
  have S19 : Sep h [] h15 [.row u2 3 1 (([5, 6] : List Int).map (cellI .i64)), .row u14 47 2 (([(⟨9, [120]⟩ : Gapi_Extra), y8] : List Gapi_Extra).map Gapi_Extra.cells)] := S17
  refine AE_joinR (fun e h' => h15 = h' ∧ e.length = 63 ∧ e.getD 1 .undef = u14) (by
    simp only [↓WE, WA, WL, aop, ofValue, ofCell, isConst, abin, acall1, abuiltin, aun, AV.cells, AV.one, Nat.reduceAdd, Int.reduceLT, Int.reduceLE, ↓WD, W0, evalOp, Nat.reduceEqDiff, Nat.reduceLT, ↓reduceIte, reduceCtorEq, hl, bd_47_0_1, ob4, og9, ob16]
    exact ⟨rfl, (by simp only [List.length_set, hl]), (by simp only [W0, Nat.reduceEqDiff, Nat.reduceLT, ↓reduceIte, hl])⟩) ?_
  rintro envg20 _ ⟨rfl, hl, e1⟩
  try simp only [↓WD, W0, evalOp, Nat.reduceEqDiff, Nat.reduceLT, ↓reduceIte, reduceCtorEq, hl, e1]
  rw [AW_region]
  obtain ⟨y21, qy21, hF⟩ := obind hF
  obtain ⟨v25, h23, og22, rfl, S24⟩ := (W_extra_Put k13 k77 n50 n51 n52 n69 n26 m (by omega) h15 u14 ([(⟨9, [120]⟩ : Gapi_Extra), y8] : List Gapi_Extra) (S19.row_ro (i := 1) rfl) qy21).out
  have S26 : Sep h [] h23 [.row u2 3 1 (([5, 6] : List Int).map (cellI .i64)), .row u14 47 2 (([(⟨9, [120]⟩ : Gapi_Extra), y8] : List Gapi_Extra).map Gapi_Extra.cells)] := S19.call0 S24
  refine AE_joinR (fun e h' => h23 = h' ∧ e.length = 63 ∧ e.getD 2 .undef = .str y21.1 ∧ e.getD 3 .undef = .int .i64 y21.2) (by
    simp only [↓WE, WA, WL, aop, ofValue, ofCell, isConst, abin, acall1, abuiltin, aun, AV.cells, AV.one, Nat.reduceAdd, Int.reduceLT, Int.reduceLE, ↓WD, W0, evalOp, Nat.reduceEqDiff, Nat.reduceLT, ↓reduceIte, reduceCtorEq, hl, e1, og22]
    exact ⟨rfl, (by simp only [List.length_set, hl]), (by simp only [W0, Nat.reduceEqDiff, Nat.reduceLT, ↓reduceIte, hl, e1]), (by simp only [W0, Nat.reduceEqDiff, Nat.reduceLT, ↓reduceIte, hl, e1])⟩) ?_
  rintro envg27 _ ⟨rfl, hl, e2, e3⟩
  try simp only [↓WD, W0, evalOp, Nat.reduceEqDiff, Nat.reduceLT, ↓reduceIte, reduceCtorEq, hl, e2, e3]
  rw [AW_region]
  obtain ⟨y28, qy28, hF⟩ := obind hF
  obtain ⟨v33, h30, og29, u32, rfl, S31⟩ := (W_extra_Parse k16 k47 n21 m (by omega) h23 y21.1 qy28).out
  have S35 : Sep h [] h30 [.row u2 3 1 (([5, 6] : List Int).map (cellI .i64)), .row u14 47 2 (([(⟨9, [120]⟩ : Gapi_Extra), y8] : List Gapi_Extra).map Gapi_Extra.cells), .row u32 47 2 (y28.1.map Gapi_Extra.cells)] := S26.call0 S31
  refine AE_joinR (fun e h' => h30 = h' ∧ e.length = 63 ∧ e.getD 2 .undef = .str y21.1 ∧ e.getD 3 .undef = .int .i64 y21.2 ∧ e.getD 4 .undef = u32 ∧ e.getD 5 .undef = .int .i64 y28.2) (by
    simp only [↓WE, WA, WL, aop, ofValue, ofCell, isConst, abin, acall1, abuiltin, aun, AV.cells, AV.one, Nat.reduceAdd, Int.reduceLT, Int.reduceLE, ↓WD, W0, evalOp, Nat.reduceEqDiff, Nat.reduceLT, ↓reduceIte, reduceCtorEq, hl, e2, e3, og29]
    exact ⟨rfl, (by simp only [List.length_set, hl]), (by simp only [W0, Nat.reduceEqDiff, Nat.reduceLT, ↓reduceIte, hl, e2, e3]), (by simp only [W0, Nat.reduceEqDiff, Nat.reduceLT, ↓reduceIte, hl, e2, e3]), (by simp only [W0, Nat.reduceEqDiff, Nat.reduceLT, ↓reduceIte, hl, e2, e3]), (by simp only [W0, Nat.reduceEqDiff, Nat.reduceLT, ↓reduceIte, hl, e2, e3])⟩) ?_
  rintro envg36 _ ⟨rfl, hl, e2, e3, e4, e5⟩
  try simp only [↓WD, W0, evalOp, Nat.reduceEqDiff, Nat.reduceLT, ↓reduceIte, reduceCtorEq, hl, e2, e3, e4, e5]
  rw [AW_region]
  obtain ⟨y37, qy37, hF⟩ := obind hF
  obtain ⟨v41, h39, og38, rfl, S40⟩ := (W_extra_Resolve k18 n24 n28 m (by omega) h30 u32 y28.1 (S35.row_ro (i := 2) rfl) 4294967295 7 4294967295 qy37).out
  have S42 : Sep h [] h39 [.row u2 3 1 (([5, 6] : List Int).map (cellI .i64)), .row u14 47 2 (([(⟨9, [120]⟩ : Gapi_Extra), y8] : List Gapi_Extra).map Gapi_Extra.cells), .row u32 47 2 (y28.1.map Gapi_Extra.cells)] := S35.call0 S40
  obtain ⟨i43, h44, oa45, S46⟩ := S42.alloc 53 [.int .i64 0, .int .i64 0, .int .i64 0]
  have S48 : Sep h [] h44 [.row u2 3 1 (([5, 6] : List Int).map (cellI .i64)), .row u14 47 2 (([(⟨9, [120]⟩ : Gapi_Extra), y8] : List Gapi_Extra).map Gapi_Extra.cells), .row u32 47 2 (y28.1.map Gapi_Extra.cells), .blk i43 ([0, 0, 0].map (AV.int .i64)) 53] := S46
  obtain ⟨_, q52, hF⟩ := obind hF
  obtain ⟨_, q53, hF⟩ := obind hF
  obtain ⟨h49, os50, S51⟩ := S48.storeAll (P := Try.prog) 3 rfl (t := 53) sz_53 q52 q53
  have S54 : Sep h [] h49 [.row u2 3 1 (([5, 6] : List Int).map (cellI .i64)), .row u14 47 2 (([(⟨9, [120]⟩ : Gapi_Extra), y8] : List Gapi_Extra).map Gapi_Extra.cells), .row u32 47 2 (y28.1.map Gapi_Extra.cells), .blk i43 (y37.1.map (AV.int .i64)) 53] := S51
  refine AE_joinR (fun e h' => h49 = h' ∧ e.length = 63 ∧ e.getD 2 .undef = .str y21.1 ∧ e.getD 3 .undef = .int .i64 y21.2 ∧ e.getD 4 .undef = u32 ∧ e.getD 5 .undef = .int .i64 y28.2 ∧ e.getD 6 .undef = .ptr i43 0 ∧ e.getD 7 .undef = .int .i64 y37.2) (by
    simp only [↓WE, WA, WL, aop, ofValue, ofCell, isConst, abin, acall1, abuiltin, aun, AV.cells, AV.one, Nat.reduceAdd, Int.reduceLT, Int.reduceLE, ↓WD, W0, evalOp, Nat.reduceEqDiff, Nat.reduceLT, ↓reduceIte, reduceCtorEq, hl, e2, e3, e4, e5, bd_53_0_1_2, og38, zero_53, oa45, os50]
    exact ⟨rfl, (by simp only [List.length_set, hl]), (by simp only [W0, Nat.reduceEqDiff, Nat.reduceLT, ↓reduceIte, hl, e2, e3, e4, e5]), (by simp only [W0, Nat.reduceEqDiff, Nat.reduceLT, ↓reduceIte, hl, e2, e3, e4, e5]), (by simp only [W0, Nat.reduceEqDiff, Nat.reduceLT, ↓reduceIte, hl, e2, e3, e4, e5]), (by simp only [W0, Nat.reduceEqDiff, Nat.reduceLT, ↓reduceIte, hl, e2, e3, e4, e5]), (by simp only [W0, Nat.reduceEqDiff, Nat.reduceLT, ↓reduceIte, hl, e2, e3, e4, e5]), (by simp only [W0, Nat.reduceEqDiff, Nat.reduceLT, ↓reduceIte, hl, e2, e3, e4, e5])⟩) ?_
  rintro envg55 _ ⟨rfl, hl, e2, e3, e4, e5, e6, e7⟩
  try simp only [↓WD, W0, evalOp, Nat.reduceEqDiff, Nat.reduceLT, ↓reduceIte, reduceCtorEq, hl, e2, e3, e4, e5, e6, e7]
  rw [AW_region]
  obtain ⟨y56, qy56, hF⟩ := obind hF
  obtain ⟨v61, h58, og57, u60, rfl, S59⟩ := (W_extra_Parse k16 k47 n21 m (by omega) h49 [1] qy56).out
  have S63 : Sep h [] h58 [.row u2 3 1 (([5, 6] : List Int).map (cellI .i64)), .row u14 47 2 (([(⟨9, [120]⟩ : Gapi_Extra), y8] : List Gapi_Extra).map Gapi_Extra.cells), .row u32 47 2 (y28.1.map Gapi_Extra.cells), .blk i43 (y37.1.map (AV.int .i64)) 53, .row u60 47 2 (y56.1.map Gapi_Extra.cells)] := S54.call0 S59
  refine AE_joinR (fun e h' => h58 = h' ∧ e.length = 63 ∧ e.getD 2 .undef = .str y21.1 ∧ e.getD 3 .undef = .int .i64 y21.2 ∧ e.getD 4 .undef = u32 ∧ e.getD 5 .undef = .int .i64 y28.2 ∧ e.getD 6 .undef = .ptr i43 0 ∧ e.getD 7 .undef = .int .i64 y37.2 ∧ e.getD 9 .undef = .int .i64 y56.2) (by
    simp only [↓WE, WA, WL, aop, ofValue, ofCell, isConst, abin, acall1, abuiltin, aun, AV.cells, AV.one, Nat.reduceAdd, Int.reduceLT, Int.reduceLE, ↓WD, W0, evalOp, Nat.reduceEqDiff, Nat.reduceLT, ↓reduceIte, reduceCtorEq, hl, e2, e3, e4, e5, e6, e7, og57]
    exact ⟨rfl, (by simp only [List.length_set, hl]), (by simp only [W0, Nat.reduceEqDiff, Nat.reduceLT, ↓reduceIte, hl, e2, e3, e4, e5, e6, e7]), (by simp only [W0, Nat.reduceEqDiff, Nat.reduceLT, ↓reduceIte, hl, e2, e3, e4, e5, e6, e7]), (by simp only [W0, Nat.reduceEqDiff, Nat.reduceLT, ↓reduceIte, hl, e2, e3, e4, e5, e6, e7]), (by simp only [W0, Nat.reduceEqDiff, Nat.reduceLT, ↓reduceIte, hl, e2, e3, e4, e5, e6, e7]), (by simp only [W0, Nat.reduceEqDiff, Nat.reduceLT, ↓reduceIte, hl, e2, e3, e4, e5, e6, e7]), (by simp only [W0, Nat.reduceEqDiff, Nat.reduceLT, ↓reduceIte, hl, e2, e3, e4, e5, e6, e7]), (by simp only [W0, Nat.reduceEqDiff, Nat.reduceLT, ↓reduceIte, hl, e2, e3, e4, e5, e6, e7])⟩) ?_
  rintro envg64 _ ⟨rfl, hl, e2, e3, e4, e5, e6, e7, e9⟩
  try simp only [↓WD, W0, evalOp, Nat.reduceEqDiff, Nat.reduceLT, ↓reduceIte, reduceCtorEq, hl, e2, e3, e4, e5, e6, e7, e9]
  rw [AW_region]
  obtain ⟨j88, qj88, hF⟩ := obind hF
  refine AE_joinR (fun e h' => e.length = 63 ∧ e.getD 0 .undef = .bool j88 ∧ Sep h [] h' []) ?_ ?_
  · simp only [↓WE, WA, WL, aop, ofValue, ofCell, isConst, abin, acall1, abuiltin, aun, AV.cells, AV.one, Nat.reduceAdd, Int.reduceLT, Int.reduceLE, ↓WD, W0, evalOp, Nat.reduceEqDiff, Nat.reduceLT, ↓reduceIte, reduceCtorEq, hl, e2, e3, e4, e5, e6, e7, e9]
    refine GuardW_boo (fun c65 => ?_) (fun c65 => ?_)
    · rw [if_pos c65] at qj88
      have d66 := c65
      have ol68 := fun g : AH => alen_str (P := Try.prog) (h := g) (l := y21.1) Try.underlying9
      simp only [↓WE, WA, WL, aop, ofValue, ofCell, isConst, abin, acall1, abuiltin, aun, AV.cells, AV.one, Nat.reduceAdd, Int.reduceLT, Int.reduceLE, ↓WD, W0, evalOp, Nat.reduceEqDiff, Nat.reduceLT, ↓reduceIte, reduceCtorEq, hl, e2, e3, e4, e5, e6, e7, e9, ol68, d66]
      refine GuardW_boo (fun c69 => ?_) (fun c69 => ?_)
      · rw [if_pos c69] at qj88
        have d70 := c69
        simp only [↓WE, WA, WL, aop, ofValue, ofCell, isConst, abin, acall1, abuiltin, aun, AV.cells, AV.one, Nat.reduceAdd, Int.reduceLT, Int.reduceLE, ↓WD, W0, evalOp, Nat.reduceEqDiff, Nat.reduceLT, ↓reduceIte, reduceCtorEq, hl, e2, e3, e4, e5, e6, e7, e9, ol68, d66, d70]
        refine GuardW_boo (fun c72 => ?_) (fun c72 => ?_)
        · rw [if_pos c72] at qj88
          have d73 := c72
          have ol75 := RO.len (P := Try.prog) sl_35 (S63.row_ro (i := 2) rfl)
          rw [List.length_map] at ol75
          simp only [↓WE, WA, WL, aop, ofValue, ofCell, isConst, abin, acall1, abuiltin, aun, AV.cells, AV.one, Nat.reduceAdd, Int.reduceLT, Int.reduceLE, ↓WD, W0, evalOp, Nat.reduceEqDiff, Nat.reduceLT, ↓reduceIte, reduceCtorEq, hl, e2, e3, e4, e5, e6, e7, e9, ol68, ol75, d66, d70, d73]
          refine GuardW_boo (fun c76 => ?_) (fun c76 => ?_)
          · rw [if_pos c76] at qj88
            have d77 := c76
            obtain ⟨_, qol79, qj88⟩ := obind qj88
            have ol79 := S63.load (P := Try.prog) 3 rfl (t := 53) (apart_all ag_53 sz_53 qol79)
            obtain ⟨l80, ql80, qj88⟩ := obind qj88
            have oe81 : aeqOp Try.prog .eql 53 false false (.agg (y37.1.map (AV.int .i64))) (.agg [.int .i64 5, .int .i64 7, .int .i64 6]) = some (.bool (l80.1 == 5 && (l80.2.1 == 7 && (l80.2.2 == 6)))) := by
              rw [lit3_eq ql80]; exact eqa_53_eql l80.1 5 l80.2.1 7 l80.2.2 6
            simp only [↓WE, WA, WL, aop, ofValue, ofCell, isConst, abin, acall1, abuiltin, aun, AV.cells, AV.one, Nat.reduceAdd, Int.reduceLT, Int.reduceLE, ↓WD, W0, evalOp, Nat.reduceEqDiff, Nat.reduceLT, ↓reduceIte, reduceCtorEq, hl, e2, e3, e4, e5, e6, e7, e9, ol68, ol75, ol79, bd_53_0_1_2, oe81, d66, d70, d73, d77]
            refine GuardW_boo (fun c82 => ?_) (fun c82 => ?_)
            · rw [if_pos c82] at qj88
              have d83 := c82
              simp only [↓WE, WA, WL, aop, ofValue, ofCell, isConst, abin, acall1, abuiltin, aun, AV.cells, AV.one, Nat.reduceAdd, Int.reduceLT, Int.reduceLE, ↓WD, W0, evalOp, Nat.reduceEqDiff, Nat.reduceLT, ↓reduceIte, reduceCtorEq, hl, e2, e3, e4, e5, e6, e7, e9, ol68, ol75, ol79, bd_53_0_1_2, oe81, d66, d70, d73, d77, d83]
              refine GuardW_boo (fun c85 => ?_) (fun c85 => ?_)
              · rw [if_pos c85] at qj88
                have d86 := c85
                simp only [↓WE, WA, WL, aop, ofValue, ofCell, isConst, abin, acall1, abuiltin, aun, AV.cells, AV.one, Nat.reduceAdd, Int.reduceLT, Int.reduceLE, ↓WD, W0, evalOp, Nat.reduceEqDiff, Nat.reduceLT, ↓reduceIte, reduceCtorEq, hl, e2, e3, e4, e5, e6, e7, e9, ol68, ol75, ol79, bd_53_0_1_2, oe81, d66, d70, d73, d77, d83, d86]
                obtain rfl := Option.some.inj qj88
                exact ⟨(by simp only [List.length_set, hl]), (by simp only [W0, Nat.reduceEqDiff, Nat.reduceLT, ↓reduceIte, hl, e2, e3, e4, e5, e6, e7, e9]), S63.pick [] (by decide) rfl⟩
              · rw [if_neg (nf c85)] at qj88
                have d87 := c85
                simp only [↓WE, WA, WL, aop, ofValue, ofCell, isConst, abin, acall1, abuiltin, aun, AV.cells, AV.one, Nat.reduceAdd, Int.reduceLT, Int.reduceLE, ↓WD, W0, evalOp, Nat.reduceEqDiff, Nat.reduceLT, ↓reduceIte, reduceCtorEq, hl, e2, e3, e4, e5, e6, e7, e9, ol68, ol75, ol79, bd_53_0_1_2, oe81, d66, d70, d73, d77, d83, d87]
                obtain rfl := Option.some.inj qj88
                exact ⟨(by simp only [List.length_set, hl]), (by simp only [W0, Nat.reduceEqDiff, Nat.reduceLT, ↓reduceIte, hl, e2, e3, e4, e5, e6, e7, e9]), S63.pick [] (by decide) rfl⟩
            · rw [if_neg (nf c82)] at qj88
              have d84 := c82
              simp only [↓WE, WA, WL, aop, ofValue, ofCell, isConst, abin, acall1, abuiltin, aun, AV.cells, AV.one, Nat.reduceAdd, Int.reduceLT, Int.reduceLE, ↓WD, W0, evalOp, Nat.reduceEqDiff, Nat.reduceLT, ↓reduceIte, reduceCtorEq, hl, e2, e3, e4, e5, e6, e7, e9, ol68, ol75, ol79, bd_53_0_1_2, oe81, d66, d70, d73, d77, d84]
              obtain rfl := Option.some.inj qj88
              exact ⟨(by simp only [List.length_set, hl]), (by simp only [W0, Nat.reduceEqDiff, Nat.reduceLT, ↓reduceIte, hl, e2, e3, e4, e5, e6, e7, e9]), S63.pick [] (by decide) rfl⟩
          · rw [if_neg (nf c76)] at qj88
            have d78 := c76
            simp only [↓WE, WA, WL, aop, ofValue, ofCell, isConst, abin, acall1, abuiltin, aun, AV.cells, AV.one, Nat.reduceAdd, Int.reduceLT, Int.reduceLE, ↓WD, W0, evalOp, Nat.reduceEqDiff, Nat.reduceLT, ↓reduceIte, reduceCtorEq, hl, e2, e3, e4, e5, e6, e7, e9, ol68, ol75, d66, d70, d73, d78]
            obtain rfl := Option.some.inj qj88
            exact ⟨(by simp only [List.length_set, hl]), (by simp only [W0, Nat.reduceEqDiff, Nat.reduceLT, ↓reduceIte, hl, e2, e3, e4, e5, e6, e7, e9]), S63.pick [] (by decide) rfl⟩
        · rw [if_neg (nf c72)] at qj88
          have d74 := c72
          simp only [↓WE, WA, WL, aop, ofValue, ofCell, isConst, abin, acall1, abuiltin, aun, AV.cells, AV.one, Nat.reduceAdd, Int.reduceLT, Int.reduceLE, ↓WD, W0, evalOp, Nat.reduceEqDiff, Nat.reduceLT, ↓reduceIte, reduceCtorEq, hl, e2, e3, e4, e5, e6, e7, e9, ol68, d66, d70, d74]
          obtain rfl := Option.some.inj qj88
          exact ⟨(by simp only [List.length_set, hl]), (by simp only [W0, Nat.reduceEqDiff, Nat.reduceLT, ↓reduceIte, hl, e2, e3, e4, e5, e6, e7, e9]), S63.pick [] (by decide) rfl⟩
      · rw [if_neg (nf c69)] at qj88
        have d71 := c69
        simp only [↓WE, WA, WL, aop, ofValue, ofCell, isConst, abin, acall1, abuiltin, aun, AV.cells, AV.one, Nat.reduceAdd, Int.reduceLT, Int.reduceLE, ↓WD, W0, evalOp, Nat.reduceEqDiff, Nat.reduceLT, ↓reduceIte, reduceCtorEq, hl, e2, e3, e4, e5, e6, e7, e9, ol68, d66, d71]
        obtain rfl := Option.some.inj qj88
        exact ⟨(by simp only [List.length_set, hl]), (by simp only [W0, Nat.reduceEqDiff, Nat.reduceLT, ↓reduceIte, hl, e2, e3, e4, e5, e6, e7, e9]), S63.pick [] (by decide) rfl⟩
    · rw [if_neg (nf c65)] at qj88
      have d67 := c65
      simp only [↓WE, WA, WL, aop, ofValue, ofCell, isConst, abin, acall1, abuiltin, aun, AV.cells, AV.one, Nat.reduceAdd, Int.reduceLT, Int.reduceLE, ↓WD, W0, evalOp, Nat.reduceEqDiff, Nat.reduceLT, ↓reduceIte, reduceCtorEq, hl, e2, e3, e4, e5, e6, e7, e9, d67]
      obtain rfl := Option.some.inj qj88
      exact ⟨(by simp only [List.length_set, hl]), (by simp only [W0, Nat.reduceEqDiff, Nat.reduceLT, ↓reduceIte, hl, e2, e3, e4, e5, e6, e7, e9]), S63.pick [] (by decide) rfl⟩
  · rintro envj88 h90 ⟨hl, e0, S89⟩
    try simp only [↓WD, W0, evalOp, Nat.reduceEqDiff, Nat.reduceLT, ↓reduceIte, reduceCtorEq, hl, e0]
    refine KP_ret (vs := [.bool j88]) (by simp only [aresults, aresult, gs, List.length_set, Nat.reduceEqDiff, Nat.reduceLT, ↓reduceIte, hl, e0]) ?_
    obtain rfl := Option.some.inj hF
    exact ⟨rfl, S89⟩
set_option maxRecDepth 100000 in
set_option maxHeartbeats 4000000 in
theorem W_ref02_Put {K : PureK} (n19 : K 19 = none) (m : Nat) (hm : NF + 1 ≤ m) (h : AH) (v : Int) (n_ : Int) {r : (List UInt8)} (hF : F_ref02_Put v n_ = some r) :
    AR (acall Try.prog (hooksOf K) (drawnOf Try.prog (tabOf K)) m 19 [.int .u64 v, .int .i64 n_] h) (fun v h' => v = .str r) := by
  obtain ⟨m, rfl⟩ : ∃ k, m = k + 1 := ⟨m - 1, by omega⟩
  refine AR_call (hooksOf_none n19) Try.func19 rfl _ _ fun env hl he => ?_
  have e0 := he 0
  have e1 := he 1
  simp only [List.getD_cons_zero, List.getD_cons_succ] at e0 e1
  simp only [Try.f19] at hl ⊢
  simp only [List.length_cons, List.length_nil, Nat.reduceAdd, Nat.reduceSub] at hl
  clear he
  have S0 : Sep h [] h [] := Sep.nil h
  rw [F_ref02_Put] at hF
  try simp only [↓WD, W0, evalOp, Nat.reduceEqDiff, Nat.reduceLT, ↓reduceIte, reduceCtorEq, hl, e0, e1]
  rw [AW_region]
  refine AE_joinR (fun e h' => h = h' ∧ e.length = 22 ∧ e.getD 0 .undef = .int .u64 v ∧ e.getD 1 .undef = .int .i64 n_) (by
    simp only [↓WE, WA, WL, aop, ofValue, ofCell, isConst, abin, acall1, abuiltin, aun, AV.cells, AV.one, Nat.reduceAdd, Int.reduceLT, Int.reduceLE, ↓WD, W0, evalOp, Nat.reduceEqDiff, Nat.reduceLT, ↓reduceIte, reduceCtorEq, hl, e0, e1]
    exact ⟨rfl, (by simp only [List.length_set, hl]), (by simp only [W0, Nat.reduceEqDiff, Nat.reduceLT, ↓reduceIte, hl, e0, e1]), (by simp only [W0, Nat.reduceEqDiff, Nat.reduceLT, ↓reduceIte, hl, e0, e1])⟩) ?_
  rintro envg1 _ ⟨rfl, hl, e0, e1⟩
  try simp only [↓WD, W0, evalOp, Nat.reduceEqDiff, Nat.reduceLT, ↓reduceIte, reduceCtorEq, hl, e0, e1]
  rw [AW_region]
  refine AE_joinR (fun e h' => h = h' ∧ e.length = 22 ∧ e.getD 0 .undef = .int .u64 v ∧ e.getD 1 .undef = .int .i64 n_ ∧ e.getD 5 .undef = .val (.slice none 0 0)) (by
    simp only [↓WE, WA, WL, aop, ofValue, ofCell, isConst, abin, acall1, abuiltin, aun, AV.cells, AV.one, Nat.reduceAdd, Int.reduceLT, Int.reduceLE, ↓WD, W0, evalOp, Nat.reduceEqDiff, Nat.reduceLT, ↓reduceIte, reduceCtorEq, hl, e0, e1]
    exact ⟨rfl, (by simp only [List.length_set, hl]), (by simp only [W0, Nat.reduceEqDiff, Nat.reduceLT, ↓reduceIte, hl, e0, e1]), (by simp only [W0, Nat.reduceEqDiff, Nat.reduceLT, ↓reduceIte, hl, e0, e1]), (by simp only [W0, Nat.reduceEqDiff, Nat.reduceLT, ↓reduceIte, hl, e0, e1])⟩) ?_
  rintro envg2 _ ⟨rfl, hl, e0, e1, e5⟩
  try simp only [↓WD, W0, evalOp, Nat.reduceEqDiff, Nat.reduceLT, ↓reduceIte, reduceCtorEq, hl, e0, e1, e5]
  rw [AW_region]
  refine AE_joinR (fun e h' => h = h' ∧ e.length = 22 ∧ e.getD 0 .undef = .int .u64 v ∧ e.getD 1 .undef = .int .i64 n_ ∧ e.getD 5 .undef = .val (.slice none 0 0) ∧ e.getD 6 .undef = .int .i64 0) (by
    simp only [↓WE, WA, WL, aop, ofValue, ofCell, isConst, abin, acall1, abuiltin, aun, AV.cells, AV.one, Nat.reduceAdd, Int.reduceLT, Int.reduceLE, ↓WD, W0, evalOp, Nat.reduceEqDiff, Nat.reduceLT, ↓reduceIte, reduceCtorEq, hl, e0, e1, e5]
    exact ⟨rfl, (by simp only [List.length_set, hl]), (by simp only [W0, Nat.reduceEqDiff, Nat.reduceLT, ↓reduceIte, hl, e0, e1, e5]), (by simp only [W0, Nat.reduceEqDiff, Nat.reduceLT, ↓reduceIte, hl, e0, e1, e5]), (by simp only [W0, Nat.reduceEqDiff, Nat.reduceLT, ↓reduceIte, hl, e0, e1, e5]), (by simp only [W0, Nat.reduceEqDiff, Nat.reduceLT, ↓reduceIte, hl, e0, e1, e5])⟩) ?_
  rintro envg3 _ ⟨rfl, hl, e0, e1, e5, e6⟩
  try simp only [↓WD, W0, evalOp, Nat.reduceEqDiff, Nat.reduceLT, ↓reduceIte, reduceCtorEq, hl, e0, e1, e5, e6]
  have S30 : Sep h [] h [.row (.val (.slice none 0 0)) 5 1 (([] : List Int).map (cellI .u8))] := S0.nilrow 5 1
  obtain ⟨r60, qr60, hF⟩ := obind hF
  refine AW_lift (L_ref02_Put_1 n_) (fun s e h' => ∃ (u34 : AV), e.length = 22 ∧ e.getD 0 .undef = .int .u64 s.1 ∧ e.getD 1 .undef = .int .i64 n_ ∧ e.getD 5 .undef = u34 ∧ e.getD 6 .undef = .int .i64 s.2.2 ∧ Sep h [] h' [.row u34 5 1 (s.2.1.map (cellI .u8))]) (fun r60 x e h' => ∃ (u61 : AV), x = .exit 0 ∧ e.length = 22 ∧ e.getD 5 .undef = u61 ∧ Sep h [] h' [.row u61 5 1 (r60.map (cellI .u8))]) qr60 (by omega) ?_ ?_ ?_
  · rintro s envr60 h35 or60 ⟨u34, hl, e0, e1, e5, e6, S36⟩ wr60
    rw [L_ref02_Put_1] at wr60
    try simp only [↓WD, W0, evalOp, Nat.reduceEqDiff, Nat.reduceLT, ↓reduceIte, reduceCtorEq, hl, e0, e1, e5, e6]
    rw [AW_region]
    refine AE_joinR (fun e h' => h35 = h' ∧ e.length = 22 ∧ e.getD 0 .undef = .int .u64 s.1 ∧ e.getD 1 .undef = .int .i64 n_ ∧ e.getD 5 .undef = u34 ∧ e.getD 6 .undef = .int .i64 s.2.2 ∧ e.getD 9 .undef = .bool (decide (s.2.2 < n_))) (by
      simp only [↓WE, WA, WL, aop, ofValue, ofCell, isConst, abin, acall1, abuiltin, aun, AV.cells, AV.one, Nat.reduceAdd, Int.reduceLT, Int.reduceLE, ↓WD, W0, evalOp, Nat.reduceEqDiff, Nat.reduceLT, ↓reduceIte, reduceCtorEq, hl, e0, e1, e5, e6]
      exact ⟨rfl, (by simp only [List.length_set, hl]), (by simp only [W0, Nat.reduceEqDiff, Nat.reduceLT, ↓reduceIte, hl, e0, e1, e5, e6]), (by simp only [W0, Nat.reduceEqDiff, Nat.reduceLT, ↓reduceIte, hl, e0, e1, e5, e6]), (by simp only [W0, Nat.reduceEqDiff, Nat.reduceLT, ↓reduceIte, hl, e0, e1, e5, e6]), (by simp only [W0, Nat.reduceEqDiff, Nat.reduceLT, ↓reduceIte, hl, e0, e1, e5, e6]), (by simp only [W0, Nat.reduceEqDiff, Nat.reduceLT, ↓reduceIte, hl, e0, e1, e5, e6])⟩) ?_
    rintro envg37 _ ⟨rfl, hl, e0, e1, e5, e6, e9⟩
    try simp only [↓WD, W0, evalOp, Nat.reduceEqDiff, Nat.reduceLT, ↓reduceIte, reduceCtorEq, hl, e0, e1, e5, e6, e9]
    refine CondK_dec (fun c39 => ?_) (fun c39 => ?_)
    · rw [if_pos c39] at wr60
      try simp only [↓WD, W0, evalOp, Nat.reduceEqDiff, Nat.reduceLT, ↓reduceIte, reduceCtorEq, hl, e0, e1, e5, e6, e9]
      rw [AW_region]
      obtain ⟨y40, qy40, wr60⟩ := obind wr60
      have oy40 := rem_int (k := .u64) qy40
      have oc41 := fun g : AH => aconv_int (P := Try.prog) (h := g) (n := y40) (k' := .u64) Try.underlying25 Try.underlying5
      obtain ⟨u42, h43, ob44, S45⟩ := Sep.build (P := Try.prog) sl_70 S36 [.int .u8 (IntKind.u8.wrap y40)] (([IntKind.u8.wrap y40] : List Int).map (cellI .u8)) rfl (by simp [cellI]) (by simp)
      have ob44 : abuildSlice Try.prog 70 1 [(0, .int .u8 (IntKind.u8.wrap y40))] h35 = some (u42, h43) := ob44
      have S47 : Sep h [] h43 [.row u34 5 1 (s.2.1.map (cellI .u8)), .row u42 5 1 (([IntKind.u8.wrap y40] : List Int).map (cellI .u8))] := S45
      obtain ⟨zs48, qzs48, wr60⟩ := obind wr60
      obtain ⟨u49, h50, op51, S52⟩ := Sep.append (P := Try.prog) (t' := 70) sl_70 (by rw [Try.underlying70]; rfl) S47 0 rfl (S47.row_ro (i := 1) rfl) (fun _ => rfl) qzs48
      have S53 : Sep h [] h50 [.row u49 5 1 (zs48.map (cellI .u8)), .row u42 5 1 (([IntKind.u8.wrap y40] : List Int).map (cellI .u8))] := S52
      refine AE_joinR (fun e h' => h50 = h' ∧ e.length = 22 ∧ e.getD 0 .undef = .int .u64 s.1 ∧ e.getD 1 .undef = .int .i64 n_ ∧ e.getD 5 .undef = u49 ∧ e.getD 6 .undef = .int .i64 s.2.2) (by
        simp only [↓WE, WA, WL, aop, ofValue, ofCell, isConst, abin, acall1, abuiltin, aun, AV.cells, AV.one, Nat.reduceAdd, Int.reduceLT, Int.reduceLE, ↓WD, W0, evalOp, Nat.reduceEqDiff, Nat.reduceLT, ↓reduceIte, reduceCtorEq, hl, e0, e1, e5, e6, e9, oy40, oc41, ob44, op51]
        exact ⟨rfl, (by simp only [List.length_set, hl]), (by simp only [W0, Nat.reduceEqDiff, Nat.reduceLT, ↓reduceIte, hl, e0, e1, e5, e6, e9]), (by simp only [W0, Nat.reduceEqDiff, Nat.reduceLT, ↓reduceIte, hl, e0, e1, e5, e6, e9]), (by simp only [W0, Nat.reduceEqDiff, Nat.reduceLT, ↓reduceIte, hl, e0, e1, e5, e6, e9]), (by simp only [W0, Nat.reduceEqDiff, Nat.reduceLT, ↓reduceIte, hl, e0, e1, e5, e6, e9])⟩) ?_
      rintro envg54 _ ⟨rfl, hl, e0, e1, e5, e6⟩
      try simp only [↓WD, W0, evalOp, Nat.reduceEqDiff, Nat.reduceLT, ↓reduceIte, reduceCtorEq, hl, e0, e1, e5, e6]
      rw [AW_region]
      obtain ⟨y55, qy55, wr60⟩ := obind wr60
      have oy55 := quo_int (k := .u64) qy55
      refine AE_joinR (fun e h' => h50 = h' ∧ e.length = 22 ∧ e.getD 0 .undef = .int .u64 y55 ∧ e.getD 1 .undef = .int .i64 n_ ∧ e.getD 5 .undef = u49 ∧ e.getD 6 .undef = .int .i64 s.2.2) (by
        simp only [↓WE, WA, WL, aop, ofValue, ofCell, isConst, abin, acall1, abuiltin, aun, AV.cells, AV.one, Nat.reduceAdd, Int.reduceLT, Int.reduceLE, ↓WD, W0, evalOp, Nat.reduceEqDiff, Nat.reduceLT, ↓reduceIte, reduceCtorEq, hl, e0, e1, e5, e6, oy55]
        exact ⟨rfl, (by simp only [List.length_set, hl]), (by simp only [W0, Nat.reduceEqDiff, Nat.reduceLT, ↓reduceIte, hl, e0, e1, e5, e6]), (by simp only [W0, Nat.reduceEqDiff, Nat.reduceLT, ↓reduceIte, hl, e0, e1, e5, e6]), (by simp only [W0, Nat.reduceEqDiff, Nat.reduceLT, ↓reduceIte, hl, e0, e1, e5, e6]), (by simp only [W0, Nat.reduceEqDiff, Nat.reduceLT, ↓reduceIte, hl, e0, e1, e5, e6])⟩) ?_
      rintro envg56 _ ⟨rfl, hl, e0, e1, e5, e6⟩
      try simp only [↓WD, W0, evalOp, Nat.reduceEqDiff, Nat.reduceLT, ↓reduceIte, reduceCtorEq, hl, e0, e1, e5, e6]
      rw [AW_region]
      refine AE_joinR (fun e h' => h50 = h' ∧ e.length = 22 ∧ e.getD 0 .undef = .int .u64 y55 ∧ e.getD 1 .undef = .int .i64 n_ ∧ e.getD 5 .undef = u49 ∧ e.getD 6 .undef = .int .i64 (IntKind.i64.wrap (s.2.2 + 1))) (by
        simp only [↓WE, WA, WL, aop, ofValue, ofCell, isConst, abin, acall1, abuiltin, aun, AV.cells, AV.one, Nat.reduceAdd, Int.reduceLT, Int.reduceLE, ↓WD, W0, evalOp, Nat.reduceEqDiff, Nat.reduceLT, ↓reduceIte, reduceCtorEq, hl, e0, e1, e5, e6]
        exact ⟨rfl, (by simp only [List.length_set, hl]), (by simp only [W0, Nat.reduceEqDiff, Nat.reduceLT, ↓reduceIte, hl, e0, e1, e5, e6]), (by simp only [W0, Nat.reduceEqDiff, Nat.reduceLT, ↓reduceIte, hl, e0, e1, e5, e6]), (by simp only [W0, Nat.reduceEqDiff, Nat.reduceLT, ↓reduceIte, hl, e0, e1, e5, e6]), (by simp only [W0, Nat.reduceEqDiff, Nat.reduceLT, ↓reduceIte, hl, e0, e1, e5, e6])⟩) ?_
      rintro envg57 _ ⟨rfl, hl, e0, e1, e5, e6⟩
      try simp only [↓WD, W0, evalOp, Nat.reduceEqDiff, Nat.reduceLT, ↓reduceIte, reduceCtorEq, hl, e0, e1, e5, e6]
      obtain rfl := Option.some.inj wr60
      rw [KP_nil, QL_normal]
      exact ⟨_, rfl, u49, (by simp only [List.length_set, hl]), (by simp only [W0, Nat.reduceEqDiff, Nat.reduceLT, ↓reduceIte, hl, e0, e1, e5, e6]), (by simp only [W0, Nat.reduceEqDiff, Nat.reduceLT, ↓reduceIte, hl, e0, e1, e5, e6]), (by simp only [W0, Nat.reduceEqDiff, Nat.reduceLT, ↓reduceIte, hl, e0, e1, e5, e6]), (by simp only [W0, Nat.reduceEqDiff, Nat.reduceLT, ↓reduceIte, hl, e0, e1, e5, e6]), S53.pick [0] (by decide) rfl⟩
    · rw [if_neg c39] at wr60
      try simp only [↓WD, W0, evalOp, Nat.reduceEqDiff, Nat.reduceLT, ↓reduceIte, reduceCtorEq, hl, e0, e1, e5, e6, e9]
      obtain rfl := Option.some.inj wr60
      rw [KP_nil, QL_exit]
      exact ⟨_, rfl, u34, rfl, (by simp only [List.length_set, hl]), (by simp only [W0, Nat.reduceEqDiff, Nat.reduceLT, ↓reduceIte, hl, e0, e1, e5, e6, e9]), S36⟩
  · exact ⟨.val (.slice none 0 0), (by simp only [List.length_set, hl]), (by simp only [W0, Nat.reduceEqDiff, Nat.reduceLT, ↓reduceIte, hl, e0, e1, e5, e6]), (by simp only [W0, Nat.reduceEqDiff, Nat.reduceLT, ↓reduceIte, hl, e0, e1, e5, e6]), (by simp only [W0, Nat.reduceEqDiff, Nat.reduceLT, ↓reduceIte, hl, e0, e1, e5, e6]), (by simp only [W0, Nat.reduceEqDiff, Nat.reduceLT, ↓reduceIte, hl, e0, e1, e5, e6]), S30⟩
  · rintro x envr60 h62 ⟨u61, rfl, hl, e5, S63⟩
    try simp only [↓WD, W0, evalOp, Nat.reduceEqDiff, Nat.reduceLT, ↓reduceIte, reduceCtorEq, hl, e5]
    rw [AW_region]
    have oc64 := RO.str (P := Try.prog) Try.underlying70 Try.underlying5 Try.underlying9 (S63.row_ro (i := 0) rfl)
    refine AE_joinR (fun e h' => h62 = h' ∧ e.length = 22 ∧ e.getD 4 .undef = .str (r60.map byt)) (by
      simp only [↓WE, WA, WL, aop, ofValue, ofCell, isConst, abin, acall1, abuiltin, aun, AV.cells, AV.one, Nat.reduceAdd, Int.reduceLT, Int.reduceLE, ↓WD, W0, evalOp, Nat.reduceEqDiff, Nat.reduceLT, ↓reduceIte, reduceCtorEq, hl, e5, oc64]
      exact ⟨rfl, (by simp only [List.length_set, hl]), (by simp only [W0, Nat.reduceEqDiff, Nat.reduceLT, ↓reduceIte, hl, e5])⟩) ?_
    rintro envg65 _ ⟨rfl, hl, e4⟩
    try simp only [↓WD, W0, evalOp, Nat.reduceEqDiff, Nat.reduceLT, ↓reduceIte, reduceCtorEq, hl, e4]
    refine KP_ret (vs := [.str (r60.map byt)]) (by simp only [aresults, aresult, gs, List.length_set, Nat.reduceEqDiff, Nat.reduceLT, ↓reduceIte, hl, e4]) ?_
    obtain rfl := Option.some.inj hF
    exact rfl
set_option maxRecDepth 100000 in
set_option maxHeartbeats 4000000 in
theorem W_ref17_Put {K : PureK} (k19 : K 19 = some kf_19) (n27 : K 27 = none) (m : Nat) (hm : NF + 1 ≤ m) (h : AH) (ul : AV) (l : List Gapi_Extra) (hul : RO 2 ul h (l.map Gapi_Extra.cells)) {r : (List UInt8) × Int} (hF : F_ref17_Put l = some r) :
    AR (acall Try.prog (hooksOf K) (drawnOf Try.prog (tabOf K)) m 27 [ul] h) (fun v h' => v = .tup [.str r.1, .int .i64 r.2] ∧ Sep h [] h' []) := by
  obtain ⟨m, rfl⟩ : ∃ k, m = k + 1 := ⟨m - 1, by omega⟩
  refine AR_call (hooksOf_none n27) Try.func27 rfl _ _ fun env hl he => ?_
  have e0 := he 0
  simp only [List.getD_cons_zero, List.getD_cons_succ] at e0
  simp only [Try.f27] at hl ⊢
  simp only [List.length_cons, List.length_nil, Nat.reduceAdd, Nat.reduceSub] at hl
  clear he
  have S0 : Sep h [] h [] := Sep.nil h
  rw [F_ref17_Put] at hF
  try simp only [↓WD, W0, evalOp, Nat.reduceEqDiff, Nat.reduceLT, ↓reduceIte, reduceCtorEq, hl, e0]
  rw [AW_region]
  refine AE_joinR (fun e h' => h = h' ∧ e.length = 63 ∧ e.getD 0 .undef = ul) (by
    simp only [↓WE, WA, WL, aop, ofValue, ofCell, isConst, abin, acall1, abuiltin, aun, AV.cells, AV.one, Nat.reduceAdd, Int.reduceLT, Int.reduceLE, ↓WD, W0, evalOp, Nat.reduceEqDiff, Nat.reduceLT, ↓reduceIte, reduceCtorEq, hl, e0]
    exact ⟨rfl, (by simp only [List.length_set, hl]), (by simp only [W0, Nat.reduceEqDiff, Nat.reduceLT, ↓reduceIte, hl, e0])⟩) ?_
  rintro envg1 _ ⟨rfl, hl, e0⟩
  try simp only [↓WD, W0, evalOp, Nat.reduceEqDiff, Nat.reduceLT, ↓reduceIte, reduceCtorEq, hl, e0]
  rw [AW_region]
  refine AE_joinR (fun e h' => h = h' ∧ e.length = 63 ∧ e.getD 0 .undef = ul ∧ e.getD 4 .undef = .str []) (by
    simp only [↓WE, WA, WL, aop, ofValue, ofCell, isConst, abin, acall1, abuiltin, aun, AV.cells, AV.one, Nat.reduceAdd, Int.reduceLT, Int.reduceLE, ↓WD, W0, evalOp, Nat.reduceEqDiff, Nat.reduceLT, ↓reduceIte, reduceCtorEq, hl, e0]
    exact ⟨rfl, (by simp only [List.length_set, hl]), (by simp only [W0, Nat.reduceEqDiff, Nat.reduceLT, ↓reduceIte, hl, e0]), (by simp only [W0, Nat.reduceEqDiff, Nat.reduceLT, ↓reduceIte, hl, e0])⟩) ?_
  rintro envg2 _ ⟨rfl, hl, e0, e4⟩
  try simp only [↓WD, W0, evalOp, Nat.reduceEqDiff, Nat.reduceLT, ↓reduceIte, reduceCtorEq, hl, e0, e4]
  rw [AW_region]
  refine AE_joinR (fun e h' => h = h' ∧ e.length = 63 ∧ e.getD 0 .undef = ul ∧ e.getD 4 .undef = .str [] ∧ e.getD 5 .undef = .int .i64 0) (by
    simp only [↓WE, WA, WL, aop, ofValue, ofCell, isConst, abin, acall1, abuiltin, aun, AV.cells, AV.one, Nat.reduceAdd, Int.reduceLT, Int.reduceLE, ↓WD, W0, evalOp, Nat.reduceEqDiff, Nat.reduceLT, ↓reduceIte, reduceCtorEq, hl, e0, e4]
    exact ⟨rfl, (by simp only [List.length_set, hl]), (by simp only [W0, Nat.reduceEqDiff, Nat.reduceLT, ↓reduceIte, hl, e0, e4]), (by simp only [W0, Nat.reduceEqDiff, Nat.reduceLT, ↓reduceIte, hl, e0, e4]), (by simp only [W0, Nat.reduceEqDiff, Nat.reduceLT, ↓reduceIte, hl, e0, e4])⟩) ?_
  rintro envg3 _ ⟨rfl, hl, e0, e4, e5⟩
  try simp only [↓WD, W0, evalOp, Nat.reduceEqDiff, Nat.reduceLT, ↓reduceIte, reduceCtorEq, hl, e0, e4, e5]
  obtain ⟨r140, qr140, hF⟩ := obind hF
  refine AW_lift (L_ref17_Put_1 l) (fun s e h' => e.length = 63 ∧ e.getD 0 .undef = ul ∧ e.getD 4 .undef = .str s.1 ∧ e.getD 5 .undef = .int .i64 s.2 ∧ Sep h [] h' []) (fun r140 x e h' => (∃ (t141 : (List UInt8)), r140 = (.inl t141) ∧ x = .exit 0 ∧ e.length = 63 ∧ e.getD 4 .undef = .str t141 ∧ Sep h [] h' []) ∨ (∃ (t144 : Unit), r140 = (.inr t144) ∧ x = .ret ∧ e.length = 63 ∧ e.getD 2 .undef = .str [] ∧ e.getD 3 .undef = .int .i64 1 ∧ Sep h [] h' [])) qr140 (by omega) ?_ ?_ ?_
  · rintro s envr140 h72 or140 ⟨hl, e0, e4, e5, S73⟩ wr140
    rw [L_ref17_Put_1] at wr140
    try simp only [↓WD, W0, evalOp, Nat.reduceEqDiff, Nat.reduceLT, ↓reduceIte, reduceCtorEq, hl, e0, e4, e5]
    rw [AW_region]
    have ol74 := RO.len (P := Try.prog) sl_35 (S73.ro hul)
    rw [List.length_map] at ol74
    refine AE_joinR (fun e h' => h72 = h' ∧ e.length = 63 ∧ e.getD 0 .undef = ul ∧ e.getD 4 .undef = .str s.1 ∧ e.getD 5 .undef = .int .i64 s.2 ∧ e.getD 9 .undef = .bool (decide (s.2 < (l.length : Int)))) (by
      simp only [↓WE, WA, WL, aop, ofValue, ofCell, isConst, abin, acall1, abuiltin, aun, AV.cells, AV.one, Nat.reduceAdd, Int.reduceLT, Int.reduceLE, ↓WD, W0, evalOp, Nat.reduceEqDiff, Nat.reduceLT, ↓reduceIte, reduceCtorEq, hl, e0, e4, e5, ol74]
      exact ⟨rfl, (by simp only [List.length_set, hl]), (by simp only [W0, Nat.reduceEqDiff, Nat.reduceLT, ↓reduceIte, hl, e0, e4, e5]), (by simp only [W0, Nat.reduceEqDiff, Nat.reduceLT, ↓reduceIte, hl, e0, e4, e5]), (by simp only [W0, Nat.reduceEqDiff, Nat.reduceLT, ↓reduceIte, hl, e0, e4, e5]), (by simp only [W0, Nat.reduceEqDiff, Nat.reduceLT, ↓reduceIte, hl, e0, e4, e5])⟩) ?_
    rintro envg75 _ ⟨rfl, hl, e0, e4, e5, e9⟩
    try simp only [↓WD, W0, evalOp, Nat.reduceEqDiff, Nat.reduceLT, ↓reduceIte, reduceCtorEq, hl, e0, e4, e5, e9]
    refine CondK_dec (fun c77 => ?_) (fun c77 => ?_)
    · rw [if_pos c77] at wr140
      try simp only [↓WD, W0, evalOp, Nat.reduceEqDiff, Nat.reduceLT, ↓reduceIte, reduceCtorEq, hl, e0, e4, e5, e9]
      rw [AW_region]
      obtain ⟨j103, qj103, wr140⟩ := obind wr140
      refine AE_joinR (fun e h' => e.length = 63 ∧ e.getD 0 .undef = ul ∧ e.getD 4 .undef = .str s.1 ∧ e.getD 5 .undef = .int .i64 s.2 ∧ e.getD 34 .undef = .bool j103 ∧ Sep h [] h' []) ?_ ?_
      · obtain ⟨x78, qx78, qj103⟩ := obind qj103
        obtain ⟨i79, off80, oi81, hp82⟩ := RO.addr (P := Try.prog) sl_35 (S73.ro hul) qx78
        have ol83 := RO.ld (P := Try.prog) (S73.ro hul) hp82 qx78 (t := 3) (o := 0) (v := .int .i64 x78.xID) (by omega) (by simp only [apart, ag_3, sz_3]; rfl)
        simp only [Nat.add_zero] at ol83
        simp only [↓WE, WA, WL, aop, ofValue, ofCell, isConst, abin, acall1, abuiltin, aun, AV.cells, AV.one, Nat.reduceAdd, Int.reduceLT, Int.reduceLE, ↓WD, W0, evalOp, Nat.reduceEqDiff, Nat.reduceLT, ↓reduceIte, reduceCtorEq, hl, e0, e4, e5, e9, oi81, fa_47_0, ol83]
        refine GuardW_dec (fun c84 => ?_) (fun c84 => ?_)
        · rw [if_pos c84] at qj103
          have d85 : (decide (x78.xID < 0)) = true := decide_eq_true c84
          simp only [↓WE, WA, WL, aop, ofValue, ofCell, isConst, abin, acall1, abuiltin, aun, AV.cells, AV.one, Nat.reduceAdd, Int.reduceLT, Int.reduceLE, ↓WD, W0, evalOp, Nat.reduceEqDiff, Nat.reduceLT, ↓reduceIte, reduceCtorEq, hl, e0, e4, e5, e9, oi81, fa_47_0, ol83, d85]
          obtain rfl := Option.some.inj qj103
          exact ⟨(by simp only [List.length_set, hl]), (by simp only [W0, Nat.reduceEqDiff, Nat.reduceLT, ↓reduceIte, hl, e0, e4, e5, e9]), (by simp only [W0, Nat.reduceEqDiff, Nat.reduceLT, ↓reduceIte, hl, e0, e4, e5, e9]), (by simp only [W0, Nat.reduceEqDiff, Nat.reduceLT, ↓reduceIte, hl, e0, e4, e5, e9]), (by simp only [W0, Nat.reduceEqDiff, Nat.reduceLT, ↓reduceIte, hl, e0, e4, e5, e9]), S73⟩
        · rw [if_neg c84] at qj103
          have d86 : (decide (x78.xID < 0)) = false := decide_eq_false c84
          have ol92 := RO.ld (P := Try.prog) (S73.ro hul) hp82 qx78 (t := 3) (o := 0) (v := .int .i64 x78.xID) (by omega) (by simp only [apart, ag_3, sz_3]; rfl)
          simp only [Nat.add_zero] at ol92
          simp only [↓WE, WA, WL, aop, ofValue, ofCell, isConst, abin, acall1, abuiltin, aun, AV.cells, AV.one, Nat.reduceAdd, Int.reduceLT, Int.reduceLE, ↓WD, W0, evalOp, Nat.reduceEqDiff, Nat.reduceLT, ↓reduceIte, reduceCtorEq, hl, e0, e4, e5, e9, oi81, fa_47_0, ol83, ol92, d86]
          refine GuardW_dec (fun c93 => ?_) (fun c93 => ?_)
          · rw [if_pos c93] at qj103
            have d94 : (decide (x78.xID > 65535)) = true := decide_eq_true c93
            simp only [↓WE, WA, WL, aop, ofValue, ofCell, isConst, abin, acall1, abuiltin, aun, AV.cells, AV.one, Nat.reduceAdd, Int.reduceLT, Int.reduceLE, ↓WD, W0, evalOp, Nat.reduceEqDiff, Nat.reduceLT, ↓reduceIte, reduceCtorEq, hl, e0, e4, e5, e9, oi81, fa_47_0, ol83, ol92, d86, d94]
            obtain rfl := Option.some.inj qj103
            exact ⟨(by simp only [List.length_set, hl]), (by simp only [W0, Nat.reduceEqDiff, Nat.reduceLT, ↓reduceIte, hl, e0, e4, e5, e9]), (by simp only [W0, Nat.reduceEqDiff, Nat.reduceLT, ↓reduceIte, hl, e0, e4, e5, e9]), (by simp only [W0, Nat.reduceEqDiff, Nat.reduceLT, ↓reduceIte, hl, e0, e4, e5, e9]), (by simp only [W0, Nat.reduceEqDiff, Nat.reduceLT, ↓reduceIte, hl, e0, e4, e5, e9]), S73⟩
          · rw [if_neg c93] at qj103
            have d95 : (decide (x78.xID > 65535)) = false := decide_eq_false c93
            have ol101 := RO.ld (P := Try.prog) (S73.ro hul) hp82 qx78 (t := 9) (o := 1) (v := .str x78.xData) (by omega) (by simp only [apart, ag_9, sz_9]; rfl)
            have ol102 := fun g : AH => alen_str (P := Try.prog) (h := g) (l := x78.xData) Try.underlying9
            simp only [↓WE, WA, WL, aop, ofValue, ofCell, isConst, abin, acall1, abuiltin, aun, AV.cells, AV.one, Nat.reduceAdd, Int.reduceLT, Int.reduceLE, ↓WD, W0, evalOp, Nat.reduceEqDiff, Nat.reduceLT, ↓reduceIte, reduceCtorEq, hl, e0, e4, e5, e9, oi81, fa_47_0, ol83, ol92, fa_47_1, ol101, ol102, d86, d95]
            obtain rfl := Option.some.inj qj103
            exact ⟨(by simp only [List.length_set, hl]), (by simp only [W0, Nat.reduceEqDiff, Nat.reduceLT, ↓reduceIte, hl, e0, e4, e5, e9]), (by simp only [W0, Nat.reduceEqDiff, Nat.reduceLT, ↓reduceIte, hl, e0, e4, e5, e9]), (by simp only [W0, Nat.reduceEqDiff, Nat.reduceLT, ↓reduceIte, hl, e0, e4, e5, e9]), (by simp only [W0, Nat.reduceEqDiff, Nat.reduceLT, ↓reduceIte, hl, e0, e4, e5, e9]), S73⟩
      · rintro envj103 h105 ⟨hl, e0, e4, e5, e34, S104⟩
        try simp only [↓WD, W0, evalOp, Nat.reduceEqDiff, Nat.reduceLT, ↓reduceIte, reduceCtorEq, hl, e0, e4, e5, e34]
        refine CondK_boo (fun c108 => ?_) (fun c108 => ?_)
        · rw [if_pos c108] at wr140
          try simp only [↓WD, W0, evalOp, Nat.reduceEqDiff, Nat.reduceLT, ↓reduceIte, reduceCtorEq, hl, e0, e4, e5, e34]
          rw [AW_region]
          refine AE_joinR (fun e h' => h105 = h' ∧ e.length = 63 ∧ e.getD 2 .undef = .str [] ∧ e.getD 3 .undef = .int .i64 1) (by
            simp only [↓WE, WA, WL, aop, ofValue, ofCell, isConst, abin, acall1, abuiltin, aun, AV.cells, AV.one, Nat.reduceAdd, Int.reduceLT, Int.reduceLE, ↓WD, W0, evalOp, Nat.reduceEqDiff, Nat.reduceLT, ↓reduceIte, reduceCtorEq, hl, e0, e4, e5, e34]
            exact ⟨rfl, (by simp only [List.length_set, hl]), (by simp only [W0, Nat.reduceEqDiff, Nat.reduceLT, ↓reduceIte, hl, e0, e4, e5, e34]), (by simp only [W0, Nat.reduceEqDiff, Nat.reduceLT, ↓reduceIte, hl, e0, e4, e5, e34])⟩) ?_
          rintro envg109 _ ⟨rfl, hl, e2, e3⟩
          try simp only [↓WD, W0, evalOp, Nat.reduceEqDiff, Nat.reduceLT, ↓reduceIte, reduceCtorEq, hl, e2, e3]
          obtain rfl := Option.some.inj wr140
          rw [KP_nil, QL_ret]
          exact ⟨_, rfl, .inr (⟨_, rfl, rfl, (by simp only [List.length_set, hl]), (by simp only [W0, Nat.reduceEqDiff, Nat.reduceLT, ↓reduceIte, hl, e2, e3]), (by simp only [W0, Nat.reduceEqDiff, Nat.reduceLT, ↓reduceIte, hl, e2, e3]), S104⟩)⟩
        · rw [if_neg (nf c108)] at wr140
          try simp only [↓WD, W0, evalOp, Nat.reduceEqDiff, Nat.reduceLT, ↓reduceIte, reduceCtorEq, hl, e0, e4, e5, e34]
          rw [AW_drawn, AE_drawnK (Ksub.cons k19 Ksub.nil) (by kernel_rfl)]
          obtain ⟨x110, qx110, wr140⟩ := obind wr140
          obtain ⟨i111, off112, oi113, hp114⟩ := RO.addr (P := Try.prog) sl_35 (S104.ro hul) qx110
          have ol115 := RO.ld (P := Try.prog) (S104.ro hul) hp114 qx110 (t := 3) (o := 0) (v := .int .i64 x110.xID) (by omega) (by simp only [apart, ag_3, sz_3]; rfl)
          simp only [Nat.add_zero] at ol115
          have oc116 := fun g : AH => aconv_int (P := Try.prog) (h := g) (n := x110.xID) (k' := .i64) Try.underlying3 Try.underlying25
          obtain ⟨y117, qy117, wr140⟩ := obind wr140
          have og118 := fun (cf : CallF) (g : AH) => tab_hook (cf := cf) k19 (args := [.int .u64 (IntKind.u64.wrap x110.xID), .int .i64 2]) (v := .str y117) ((kf_19_eq (IntKind.u64.wrap x110.xID) 2).trans (by rw [qy117]; rfl)) g
          obtain ⟨s119, qs119, wr140⟩ := obind wr140
          have os119 := cat_str qs119
          have ol125 := RO.ld (P := Try.prog) (S104.ro hul) hp114 qx110 (t := 9) (o := 1) (v := .str x110.xData) (by omega) (by simp only [apart, ag_9, sz_9]; rfl)
          have ol126 := fun g : AH => alen_str (P := Try.prog) (h := g) (l := x110.xData) Try.underlying9
          have oc127 := fun g : AH => aconv_int (P := Try.prog) (h := g) (n := (x110.xData.length : Int)) (k' := .i64) Try.underlying3 Try.underlying25
          obtain ⟨y128, qy128, wr140⟩ := obind wr140
          have og129 := fun (cf : CallF) (g : AH) => tab_hook (cf := cf) k19 (args := [.int .u64 (IntKind.u64.wrap (x110.xData.length : Int)), .int .i64 2]) (v := .str y128) ((kf_19_eq (IntKind.u64.wrap (x110.xData.length : Int)) 2).trans (by rw [qy128]; rfl)) g
          obtain ⟨s130, qs130, wr140⟩ := obind wr140
          have os130 := cat_str qs130
          have ol136 := RO.ld (P := Try.prog) (S104.ro hul) hp114 qx110 (t := 9) (o := 1) (v := .str x110.xData) (by omega) (by simp only [apart, ag_9, sz_9]; rfl)
          obtain ⟨s137, qs137, wr140⟩ := obind wr140
          have os137 := cat_str qs137
          refine AE_joinR (fun e h' => h105 = h' ∧ e.length = 63 ∧ e.getD 0 .undef = ul ∧ e.getD 4 .undef = .str s137 ∧ e.getD 5 .undef = .int .i64 s.2) (by
            simp only [↓WE, WA, WL, aop, ofValue, ofCell, isConst, abin, acall1, abuiltin, aun, AV.cells, AV.one, Nat.reduceAdd, Int.reduceLT, Int.reduceLE, ↓WD, W0, evalOp, Nat.reduceEqDiff, Nat.reduceLT, ↓reduceIte, reduceCtorEq, hl, e0, e4, e5, e34, oi113, fa_47_0, ol115, oc116, og118, os119, fa_47_1, ol125, ol126, oc127, og129, os130, ol136, os137]
            exact ⟨rfl, (by simp only [List.length_set, hl]), (by simp only [W0, Nat.reduceEqDiff, Nat.reduceLT, ↓reduceIte, hl, e0, e4, e5, e34]), (by simp only [W0, Nat.reduceEqDiff, Nat.reduceLT, ↓reduceIte, hl, e0, e4, e5, e34]), (by simp only [W0, Nat.reduceEqDiff, Nat.reduceLT, ↓reduceIte, hl, e0, e4, e5, e34])⟩) ?_
          rintro envg138 _ ⟨rfl, hl, e0, e4, e5⟩
          try simp only [↓WD, W0, evalOp, Nat.reduceEqDiff, Nat.reduceLT, ↓reduceIte, reduceCtorEq, hl, e0, e4, e5]
          rw [AW_region]
          refine AE_joinR (fun e h' => h105 = h' ∧ e.length = 63 ∧ e.getD 0 .undef = ul ∧ e.getD 4 .undef = .str s137 ∧ e.getD 5 .undef = .int .i64 (IntKind.i64.wrap (s.2 + 1))) (by
            simp only [↓WE, WA, WL, aop, ofValue, ofCell, isConst, abin, acall1, abuiltin, aun, AV.cells, AV.one, Nat.reduceAdd, Int.reduceLT, Int.reduceLE, ↓WD, W0, evalOp, Nat.reduceEqDiff, Nat.reduceLT, ↓reduceIte, reduceCtorEq, hl, e0, e4, e5]
            exact ⟨rfl, (by simp only [List.length_set, hl]), (by simp only [W0, Nat.reduceEqDiff, Nat.reduceLT, ↓reduceIte, hl, e0, e4, e5]), (by simp only [W0, Nat.reduceEqDiff, Nat.reduceLT, ↓reduceIte, hl, e0, e4, e5]), (by simp only [W0, Nat.reduceEqDiff, Nat.reduceLT, ↓reduceIte, hl, e0, e4, e5])⟩) ?_
          rintro envg139 _ ⟨rfl, hl, e0, e4, e5⟩
          try simp only [↓WD, W0, evalOp, Nat.reduceEqDiff, Nat.reduceLT, ↓reduceIte, reduceCtorEq, hl, e0, e4, e5]
          obtain rfl := Option.some.inj wr140
          rw [KP_nil, QL_normal]
          exact ⟨_, rfl, (by simp only [List.length_set, hl]), (by simp only [W0, Nat.reduceEqDiff, Nat.reduceLT, ↓reduceIte, hl, e0, e4, e5]), (by simp only [W0, Nat.reduceEqDiff, Nat.reduceLT, ↓reduceIte, hl, e0, e4, e5]), (by simp only [W0, Nat.reduceEqDiff, Nat.reduceLT, ↓reduceIte, hl, e0, e4, e5]), S104⟩
    · rw [if_neg c77] at wr140
      try simp only [↓WD, W0, evalOp, Nat.reduceEqDiff, Nat.reduceLT, ↓reduceIte, reduceCtorEq, hl, e0, e4, e5, e9]
      obtain rfl := Option.some.inj wr140
      rw [KP_nil, QL_exit]
      exact ⟨_, rfl, .inl ⟨_, rfl, rfl, (by simp only [List.length_set, hl]), (by simp only [W0, Nat.reduceEqDiff, Nat.reduceLT, ↓reduceIte, hl, e0, e4, e5, e9]), S73⟩⟩
  · exact ⟨(by simp only [List.length_set, hl]), (by simp only [W0, Nat.reduceEqDiff, Nat.reduceLT, ↓reduceIte, hl, e0, e4, e5]), (by simp only [W0, Nat.reduceEqDiff, Nat.reduceLT, ↓reduceIte, hl, e0, e4, e5]), (by simp only [W0, Nat.reduceEqDiff, Nat.reduceLT, ↓reduceIte, hl, e0, e4, e5]), S0⟩
  · intro x envr140 h142 hk
    rcases hk with ⟨t141, rfl, rfl, hl, e4, S143⟩ | ⟨t144, rfl, rfl, hl, e2, e3, S146⟩
    · skip
      rw [sumK_inl] at hF
      try simp only [↓WD, W0, evalOp, Nat.reduceEqDiff, Nat.reduceLT, ↓reduceIte, reduceCtorEq, hl, e4]
      rw [AW_region]
      have ol147 := fun g : AH => alen_str (P := Try.prog) (h := g) (l := t141) Try.underlying9
      refine AE_joinR (fun e h' => h142 = h' ∧ e.length = 63 ∧ e.getD 4 .undef = .str t141 ∧ e.getD 61 .undef = .bool (decide ((t141.length : Int) > 65535))) (by
        simp only [↓WE, WA, WL, aop, ofValue, ofCell, isConst, abin, acall1, abuiltin, aun, AV.cells, AV.one, Nat.reduceAdd, Int.reduceLT, Int.reduceLE, ↓WD, W0, evalOp, Nat.reduceEqDiff, Nat.reduceLT, ↓reduceIte, reduceCtorEq, hl, e4, ol147]
        exact ⟨rfl, (by simp only [List.length_set, hl]), (by simp only [W0, Nat.reduceEqDiff, Nat.reduceLT, ↓reduceIte, hl, e4]), (by simp only [W0, Nat.reduceEqDiff, Nat.reduceLT, ↓reduceIte, hl, e4])⟩) ?_
      rintro envg148 _ ⟨rfl, hl, e4, e61⟩
      try simp only [↓WD, W0, evalOp, Nat.reduceEqDiff, Nat.reduceLT, ↓reduceIte, reduceCtorEq, hl, e4, e61]
      refine CondK_dec (fun c151 => ?_) (fun c151 => ?_)
      · rw [if_pos c151] at hF
        try simp only [↓WD, W0, evalOp, Nat.reduceEqDiff, Nat.reduceLT, ↓reduceIte, reduceCtorEq, hl, e4, e61]
        rw [AW_region]
        refine AE_joinR (fun e h' => h142 = h' ∧ e.length = 63 ∧ e.getD 2 .undef = .str [] ∧ e.getD 3 .undef = .int .i64 7) (by
          simp only [↓WE, WA, WL, aop, ofValue, ofCell, isConst, abin, acall1, abuiltin, aun, AV.cells, AV.one, Nat.reduceAdd, Int.reduceLT, Int.reduceLE, ↓WD, W0, evalOp, Nat.reduceEqDiff, Nat.reduceLT, ↓reduceIte, reduceCtorEq, hl, e4, e61]
          exact ⟨rfl, (by simp only [List.length_set, hl]), (by simp only [W0, Nat.reduceEqDiff, Nat.reduceLT, ↓reduceIte, hl, e4, e61]), (by simp only [W0, Nat.reduceEqDiff, Nat.reduceLT, ↓reduceIte, hl, e4, e61])⟩) ?_
        rintro envg152 _ ⟨rfl, hl, e2, e3⟩
        try simp only [↓WD, W0, evalOp, Nat.reduceEqDiff, Nat.reduceLT, ↓reduceIte, reduceCtorEq, hl, e2, e3]
        refine KP_ret (vs := [.str [], .int .i64 7]) (by simp only [aresults, aresult, gs, List.length_set, Nat.reduceEqDiff, Nat.reduceLT, ↓reduceIte, hl, e2, e3]) ?_
        obtain rfl := Option.some.inj hF
        exact ⟨rfl, S143⟩
      · rw [if_neg c151] at hF
        try simp only [↓WD, W0, evalOp, Nat.reduceEqDiff, Nat.reduceLT, ↓reduceIte, reduceCtorEq, hl, e4, e61]
        rw [AW_region]
        refine AE_joinR (fun e h' => h142 = h' ∧ e.length = 63 ∧ e.getD 2 .undef = .str t141 ∧ e.getD 3 .undef = .int .i64 0) (by
          simp only [↓WE, WA, WL, aop, ofValue, ofCell, isConst, abin, acall1, abuiltin, aun, AV.cells, AV.one, Nat.reduceAdd, Int.reduceLT, Int.reduceLE, ↓WD, W0, evalOp, Nat.reduceEqDiff, Nat.reduceLT, ↓reduceIte, reduceCtorEq, hl, e4, e61]
          exact ⟨rfl, (by simp only [List.length_set, hl]), (by simp only [W0, Nat.reduceEqDiff, Nat.reduceLT, ↓reduceIte, hl, e4, e61]), (by simp only [W0, Nat.reduceEqDiff, Nat.reduceLT, ↓reduceIte, hl, e4, e61])⟩) ?_
        rintro envg153 _ ⟨rfl, hl, e2, e3⟩
        try simp only [↓WD, W0, evalOp, Nat.reduceEqDiff, Nat.reduceLT, ↓reduceIte, reduceCtorEq, hl, e2, e3]
        refine KP_ret (vs := [.str t141, .int .i64 0]) (by simp only [aresults, aresult, gs, List.length_set, Nat.reduceEqDiff, Nat.reduceLT, ↓reduceIte, hl, e2, e3]) ?_
        obtain rfl := Option.some.inj hF
        exact ⟨rfl, S143⟩
    · skip
      rw [sumK_inr] at hF
      try simp only [↓WD, W0, evalOp, Nat.reduceEqDiff, Nat.reduceLT, ↓reduceIte, reduceCtorEq, hl, e2, e3]
      refine KP_ret (vs := [.str [], .int .i64 1]) (by simp only [aresults, aresult, gs, List.length_set, Nat.reduceEqDiff, Nat.reduceLT, ↓reduceIte, hl, e2, e3]) ?_
      obtain rfl := Option.some.inj hF
      exact ⟨rfl, S146⟩
set_option maxRecDepth 100000 in
set_option maxHeartbeats 4000000 in
theorem W_law17_same {K : PureK} (n23 : K 23 = none) (m : Nat) (hm : NF + 1 ≤ m) (h : AH) (ua : AV) (a : List Gapi_Extra) (hua : RO 2 ua h (a.map Gapi_Extra.cells)) (ub : AV) (b : List Gapi_Extra) (hub : RO 2 ub h (b.map Gapi_Extra.cells)) {r : Bool} (hF : F_law17_same a b = some r) :
    AR (acall Try.prog (hooksOf K) (drawnOf Try.prog (tabOf K)) m 23 [ua, ub] h) (fun v h' => v = .bool r ∧ Sep h [] h' []) := by
  obtain ⟨m, rfl⟩ : ∃ k, m = k + 1 := ⟨m - 1, by omega⟩
  refine AR_call (hooksOf_none n23) Try.func23 rfl _ _ fun env hl he => ?_
  have e0 := he 0
  have e1 := he 1
  simp only [List.getD_cons_zero, List.getD_cons_succ] at e0 e1
  simp only [Try.f23] at hl ⊢
  simp only [List.length_cons, List.length_nil, Nat.reduceAdd, Nat.reduceSub] at hl
  clear he
  have S0 : Sep h [] h [] := Sep.nil h
  rw [F_law17_same] at hF
  try simp only [↓WD, W0, evalOp, Nat.reduceEqDiff, Nat.reduceLT, ↓reduceIte, reduceCtorEq, hl, e0, e1]
  rw [AW_region]
  refine AE_joinR (fun e h' => h = h' ∧ e.length = 26 ∧ e.getD 0 .undef = ua ∧ e.getD 1 .undef = ub) (by
    simp only [↓WE, WA, WL, aop, ofValue, ofCell, isConst, abin, acall1, abuiltin, aun, AV.cells, AV.one, Nat.reduceAdd, Int.reduceLT, Int.reduceLE, ↓WD, W0, evalOp, Nat.reduceEqDiff, Nat.reduceLT, ↓reduceIte, reduceCtorEq, hl, e0, e1]
    exact ⟨rfl, (by simp only [List.length_set, hl]), (by simp only [W0, Nat.reduceEqDiff, Nat.reduceLT, ↓reduceIte, hl, e0, e1]), (by simp only [W0, Nat.reduceEqDiff, Nat.reduceLT, ↓reduceIte, hl, e0, e1])⟩) ?_
  rintro envg1 _ ⟨rfl, hl, e0, e1⟩
  try simp only [↓WD, W0, evalOp, Nat.reduceEqDiff, Nat.reduceLT, ↓reduceIte, reduceCtorEq, hl, e0, e1]
  rw [AW_region]
  have ol2 := RO.len (P := Try.prog) sl_35 (S0.ro hua)
  rw [List.length_map] at ol2
  have ol3 := RO.len (P := Try.prog) sl_35 (S0.ro hub)
  rw [List.length_map] at ol3
  refine AE_joinR (fun e h' => h = h' ∧ e.length = 26 ∧ e.getD 0 .undef = ua ∧ e.getD 1 .undef = ub ∧ e.getD 10 .undef = .bool ((a.length : Int) != (b.length : Int))) (by
    simp only [↓WE, WA, WL, aop, ofValue, ofCell, isConst, abin, acall1, abuiltin, aun, AV.cells, AV.one, Nat.reduceAdd, Int.reduceLT, Int.reduceLE, ↓WD, W0, evalOp, Nat.reduceEqDiff, Nat.reduceLT, ↓reduceIte, reduceCtorEq, hl, e0, e1, ol2, ol3]
    exact ⟨rfl, (by simp only [List.length_set, hl]), (by simp only [W0, Nat.reduceEqDiff, Nat.reduceLT, ↓reduceIte, hl, e0, e1]), (by simp only [W0, Nat.reduceEqDiff, Nat.reduceLT, ↓reduceIte, hl, e0, e1]), (by simp only [W0, Nat.reduceEqDiff, Nat.reduceLT, ↓reduceIte, hl, e0, e1])⟩) ?_
  rintro envg4 _ ⟨rfl, hl, e0, e1, e10⟩
  try simp only [↓WD, W0, evalOp, Nat.reduceEqDiff, Nat.reduceLT, ↓reduceIte, reduceCtorEq, hl, e0, e1, e10]
  refine CondK_boo (fun c7 => ?_) (fun c7 => ?_)
  · rw [if_pos c7] at hF
    try simp only [↓WD, W0, evalOp, Nat.reduceEqDiff, Nat.reduceLT, ↓reduceIte, reduceCtorEq, hl, e0, e1, e10]
    rw [AW_region]
    refine AE_joinR (fun e h' => h = h' ∧ e.length = 26 ∧ e.getD 4 .undef = .bool false) (by
      simp only [↓WE, WA, WL, aop, ofValue, ofCell, isConst, abin, acall1, abuiltin, aun, AV.cells, AV.one, Nat.reduceAdd, Int.reduceLT, Int.reduceLE, ↓WD, W0, evalOp, Nat.reduceEqDiff, Nat.reduceLT, ↓reduceIte, reduceCtorEq, hl, e0, e1, e10]
      exact ⟨rfl, (by simp only [List.length_set, hl]), (by simp only [W0, Nat.reduceEqDiff, Nat.reduceLT, ↓reduceIte, hl, e0, e1, e10])⟩) ?_
    rintro envg8 _ ⟨rfl, hl, e4⟩
    try simp only [↓WD, W0, evalOp, Nat.reduceEqDiff, Nat.reduceLT, ↓reduceIte, reduceCtorEq, hl, e4]
    refine KP_ret (vs := [.bool false]) (by simp only [aresults, aresult, gs, List.length_set, Nat.reduceEqDiff, Nat.reduceLT, ↓reduceIte, hl, e4]) ?_
    obtain rfl := Option.some.inj hF
    exact ⟨rfl, S0⟩
  · rw [if_neg (nf c7)] at hF
    try simp only [↓WD, W0, evalOp, Nat.reduceEqDiff, Nat.reduceLT, ↓reduceIte, reduceCtorEq, hl, e0, e1, e10]
    rw [AW_region]
    have ol9 := RO.len (P := Try.prog) sl_35 (S0.ro hua)
    rw [List.length_map] at ol9
    refine AE_joinR (fun e h' => h = h' ∧ e.length = 26 ∧ e.getD 0 .undef = ua ∧ e.getD 1 .undef = ub ∧ e.getD 12 .undef = .int .i64 (a.length : Int) ∧ e.getD 13 .undef = .int .i64 0) (by
      simp only [↓WE, WA, WL, aop, ofValue, ofCell, isConst, abin, acall1, abuiltin, aun, AV.cells, AV.one, Nat.reduceAdd, Int.reduceLT, Int.reduceLE, ↓WD, W0, evalOp, Nat.reduceEqDiff, Nat.reduceLT, ↓reduceIte, reduceCtorEq, hl, e0, e1, e10, ol9]
      exact ⟨rfl, (by simp only [List.length_set, hl]), (by simp only [W0, Nat.reduceEqDiff, Nat.reduceLT, ↓reduceIte, hl, e0, e1, e10]), (by simp only [W0, Nat.reduceEqDiff, Nat.reduceLT, ↓reduceIte, hl, e0, e1, e10]), (by simp only [W0, Nat.reduceEqDiff, Nat.reduceLT, ↓reduceIte, hl, e0, e1, e10]), (by simp only [W0, Nat.reduceEqDiff, Nat.reduceLT, ↓reduceIte, hl, e0, e1, e10])⟩) ?_
    rintro envg10 _ ⟨rfl, hl, e0, e1, e12, e13⟩
    try simp only [↓WD, W0, evalOp, Nat.reduceEqDiff, Nat.reduceLT, ↓reduceIte, reduceCtorEq, hl, e0, e1, e12, e13]
    obtain ⟨r59, qr59, hF⟩ := obind hF
    refine AW_lift (L_law17_same_1 a b) (fun s e h' => e.length = 26 ∧ e.getD 0 .undef = ua ∧ e.getD 1 .undef = ub ∧ e.getD 12 .undef = .int .i64 (a.length : Int) ∧ e.getD 13 .undef = .int .i64 s ∧ Sep h [] h' []) (fun r59 x e h' => (∃ (t60 : Unit), r59 = (.inl t60) ∧ x = .exit 0 ∧ e.length = 26 ∧ Sep h [] h' []) ∨ (∃ (t63 : Unit), r59 = (.inr t63) ∧ x = .ret ∧ e.length = 26 ∧ e.getD 4 .undef = .bool false ∧ Sep h [] h' [])) qr59 (by omega) ?_ ?_ ?_
    · rintro s envr59 h35 or59 ⟨hl, e0, e1, e12, e13, S36⟩ wr59
      rw [L_law17_same_1] at wr59
      try simp only [↓WD, W0, evalOp, Nat.reduceEqDiff, Nat.reduceLT, ↓reduceIte, reduceCtorEq, hl, e0, e1, e12, e13]
      rw [AW_region]
      refine AE_joinR (fun e h' => h35 = h' ∧ e.length = 26 ∧ e.getD 0 .undef = ua ∧ e.getD 1 .undef = ub ∧ e.getD 12 .undef = .int .i64 (a.length : Int) ∧ e.getD 13 .undef = .int .i64 s ∧ e.getD 14 .undef = .bool (decide (s < (a.length : Int)))) (by
        simp only [↓WE, WA, WL, aop, ofValue, ofCell, isConst, abin, acall1, abuiltin, aun, AV.cells, AV.one, Nat.reduceAdd, Int.reduceLT, Int.reduceLE, ↓WD, W0, evalOp, Nat.reduceEqDiff, Nat.reduceLT, ↓reduceIte, reduceCtorEq, hl, e0, e1, e12, e13]
        exact ⟨rfl, (by simp only [List.length_set, hl]), (by simp only [W0, Nat.reduceEqDiff, Nat.reduceLT, ↓reduceIte, hl, e0, e1, e12, e13]), (by simp only [W0, Nat.reduceEqDiff, Nat.reduceLT, ↓reduceIte, hl, e0, e1, e12, e13]), (by simp only [W0, Nat.reduceEqDiff, Nat.reduceLT, ↓reduceIte, hl, e0, e1, e12, e13]), (by simp only [W0, Nat.reduceEqDiff, Nat.reduceLT, ↓reduceIte, hl, e0, e1, e12, e13]), (by simp only [W0, Nat.reduceEqDiff, Nat.reduceLT, ↓reduceIte, hl, e0, e1, e12, e13])⟩) ?_
      rintro envg37 _ ⟨rfl, hl, e0, e1, e12, e13, e14⟩
      try simp only [↓WD, W0, evalOp, Nat.reduceEqDiff, Nat.reduceLT, ↓reduceIte, reduceCtorEq, hl, e0, e1, e12, e13, e14]
      refine CondK_dec (fun c39 => ?_) (fun c39 => ?_)
      · rw [if_pos c39] at wr59
        try simp only [↓WD, W0, evalOp, Nat.reduceEqDiff, Nat.reduceLT, ↓reduceIte, reduceCtorEq, hl, e0, e1, e12, e13, e14]
        rw [AW_region]
        refine AE_joinR (fun e h' => h35 = h' ∧ e.length = 26 ∧ e.getD 0 .undef = ua ∧ e.getD 1 .undef = ub ∧ e.getD 5 .undef = .int .i64 s ∧ e.getD 12 .undef = .int .i64 (a.length : Int) ∧ e.getD 13 .undef = .int .i64 s) (by
          simp only [↓WE, WA, WL, aop, ofValue, ofCell, isConst, abin, acall1, abuiltin, aun, AV.cells, AV.one, Nat.reduceAdd, Int.reduceLT, Int.reduceLE, ↓WD, W0, evalOp, Nat.reduceEqDiff, Nat.reduceLT, ↓reduceIte, reduceCtorEq, hl, e0, e1, e12, e13, e14]
          exact ⟨rfl, (by simp only [List.length_set, hl]), (by simp only [W0, Nat.reduceEqDiff, Nat.reduceLT, ↓reduceIte, hl, e0, e1, e12, e13, e14]), (by simp only [W0, Nat.reduceEqDiff, Nat.reduceLT, ↓reduceIte, hl, e0, e1, e12, e13, e14]), (by simp only [W0, Nat.reduceEqDiff, Nat.reduceLT, ↓reduceIte, hl, e0, e1, e12, e13, e14]), (by simp only [W0, Nat.reduceEqDiff, Nat.reduceLT, ↓reduceIte, hl, e0, e1, e12, e13, e14]), (by simp only [W0, Nat.reduceEqDiff, Nat.reduceLT, ↓reduceIte, hl, e0, e1, e12, e13, e14])⟩) ?_
        rintro envg40 _ ⟨rfl, hl, e0, e1, e5, e12, e13⟩
        try simp only [↓WD, W0, evalOp, Nat.reduceEqDiff, Nat.reduceLT, ↓reduceIte, reduceCtorEq, hl, e0, e1, e5, e12, e13]
        rw [AW_drawn, AE_drawnK Ksub.nil (by kernel_rfl)]
        obtain ⟨x41, qx41, wr59⟩ := obind wr59
        obtain ⟨i42, off43, oi44, hp45⟩ := RO.addr (P := Try.prog) sl_35 (S36.ro hua) qx41
        have ol46 := RO.ld (P := Try.prog) (S36.ro hua) hp45 qx41 (t := 47) (o := 0) (v := .agg [.int .i64 x41.xID, .str x41.xData]) (by omega) (by simp only [apart, ag_47, sz_47]; rfl)
        simp only [Nat.add_zero] at ol46
        obtain ⟨x47, qx47, wr59⟩ := obind wr59
        obtain ⟨i48, off49, oi50, hp51⟩ := RO.addr (P := Try.prog) sl_35 (S36.ro hub) qx47
        have ol52 := RO.ld (P := Try.prog) (S36.ro hub) hp51 qx47 (t := 47) (o := 0) (v := .agg [.int .i64 x47.xID, .str x47.xData]) (by omega) (by simp only [apart, ag_47, sz_47]; rfl)
        simp only [Nat.add_zero] at ol52
        refine AE_joinR (fun e h' => h35 = h' ∧ e.length = 26 ∧ e.getD 0 .undef = ua ∧ e.getD 1 .undef = ub ∧ e.getD 12 .undef = .int .i64 (a.length : Int) ∧ e.getD 13 .undef = .int .i64 s ∧ e.getD 24 .undef = .bool (!(x41.xID == x47.xID && (x41.xData == x47.xData)))) (by
          simp only [↓WE, WA, WL, aop, ofValue, ofCell, isConst, abin, acall1, abuiltin, aun, AV.cells, AV.one, Nat.reduceAdd, Int.reduceLT, Int.reduceLE, ↓WD, W0, evalOp, Nat.reduceEqDiff, Nat.reduceLT, ↓reduceIte, reduceCtorEq, hl, e0, e1, e5, e12, e13, oi44, ol46, oi50, ol52, eq_47_neq]
          exact ⟨rfl, (by simp only [List.length_set, hl]), (by simp only [W0, Nat.reduceEqDiff, Nat.reduceLT, ↓reduceIte, hl, e0, e1, e5, e12, e13]), (by simp only [W0, Nat.reduceEqDiff, Nat.reduceLT, ↓reduceIte, hl, e0, e1, e5, e12, e13]), (by simp only [W0, Nat.reduceEqDiff, Nat.reduceLT, ↓reduceIte, hl, e0, e1, e5, e12, e13]), (by simp only [W0, Nat.reduceEqDiff, Nat.reduceLT, ↓reduceIte, hl, e0, e1, e5, e12, e13]), (by simp only [W0, Nat.reduceEqDiff, Nat.reduceLT, ↓reduceIte, hl, e0, e1, e5, e12, e13])⟩) ?_
        rintro envg53 _ ⟨rfl, hl, e0, e1, e12, e13, e24⟩
        try simp only [↓WD, W0, evalOp, Nat.reduceEqDiff, Nat.reduceLT, ↓reduceIte, reduceCtorEq, hl, e0, e1, e12, e13, e24]
        refine CondK_boo (fun c56 => ?_) (fun c56 => ?_)
        · rw [if_pos c56] at wr59
          try simp only [↓WD, W0, evalOp, Nat.reduceEqDiff, Nat.reduceLT, ↓reduceIte, reduceCtorEq, hl, e0, e1, e12, e13, e24]
          rw [AW_region]
          refine AE_joinR (fun e h' => h35 = h' ∧ e.length = 26 ∧ e.getD 4 .undef = .bool false) (by
            simp only [↓WE, WA, WL, aop, ofValue, ofCell, isConst, abin, acall1, abuiltin, aun, AV.cells, AV.one, Nat.reduceAdd, Int.reduceLT, Int.reduceLE, ↓WD, W0, evalOp, Nat.reduceEqDiff, Nat.reduceLT, ↓reduceIte, reduceCtorEq, hl, e0, e1, e12, e13, e24]
            exact ⟨rfl, (by simp only [List.length_set, hl]), (by simp only [W0, Nat.reduceEqDiff, Nat.reduceLT, ↓reduceIte, hl, e0, e1, e12, e13, e24])⟩) ?_
          rintro envg57 _ ⟨rfl, hl, e4⟩
          try simp only [↓WD, W0, evalOp, Nat.reduceEqDiff, Nat.reduceLT, ↓reduceIte, reduceCtorEq, hl, e4]
          obtain rfl := Option.some.inj wr59
          rw [KP_nil, QL_ret]
          exact ⟨_, rfl, .inr (⟨_, rfl, rfl, (by simp only [List.length_set, hl]), (by simp only [W0, Nat.reduceEqDiff, Nat.reduceLT, ↓reduceIte, hl, e4]), S36⟩)⟩
        · rw [if_neg (nf c56)] at wr59
          try simp only [↓WD, W0, evalOp, Nat.reduceEqDiff, Nat.reduceLT, ↓reduceIte, reduceCtorEq, hl, e0, e1, e12, e13, e24]
          rw [AW_region]
          refine AE_joinR (fun e h' => h35 = h' ∧ e.length = 26 ∧ e.getD 0 .undef = ua ∧ e.getD 1 .undef = ub ∧ e.getD 12 .undef = .int .i64 (a.length : Int) ∧ e.getD 13 .undef = .int .i64 (IntKind.i64.wrap (s + 1))) (by
            simp only [↓WE, WA, WL, aop, ofValue, ofCell, isConst, abin, acall1, abuiltin, aun, AV.cells, AV.one, Nat.reduceAdd, Int.reduceLT, Int.reduceLE, ↓WD, W0, evalOp, Nat.reduceEqDiff, Nat.reduceLT, ↓reduceIte, reduceCtorEq, hl, e0, e1, e12, e13, e24]
            exact ⟨rfl, (by simp only [List.length_set, hl]), (by simp only [W0, Nat.reduceEqDiff, Nat.reduceLT, ↓reduceIte, hl, e0, e1, e12, e13, e24]), (by simp only [W0, Nat.reduceEqDiff, Nat.reduceLT, ↓reduceIte, hl, e0, e1, e12, e13, e24]), (by simp only [W0, Nat.reduceEqDiff, Nat.reduceLT, ↓reduceIte, hl, e0, e1, e12, e13, e24]), (by simp only [W0, Nat.reduceEqDiff, Nat.reduceLT, ↓reduceIte, hl, e0, e1, e12, e13, e24])⟩) ?_
          rintro envg58 _ ⟨rfl, hl, e0, e1, e12, e13⟩
          try simp only [↓WD, W0, evalOp, Nat.reduceEqDiff, Nat.reduceLT, ↓reduceIte, reduceCtorEq, hl, e0, e1, e12, e13]
          obtain rfl := Option.some.inj wr59
          rw [KP_nil, QL_normal]
          exact ⟨_, rfl, (by simp only [List.length_set, hl]), (by simp only [W0, Nat.reduceEqDiff, Nat.reduceLT, ↓reduceIte, hl, e0, e1, e12, e13]), (by simp only [W0, Nat.reduceEqDiff, Nat.reduceLT, ↓reduceIte, hl, e0, e1, e12, e13]), (by simp only [W0, Nat.reduceEqDiff, Nat.reduceLT, ↓reduceIte, hl, e0, e1, e12, e13]), (by simp only [W0, Nat.reduceEqDiff, Nat.reduceLT, ↓reduceIte, hl, e0, e1, e12, e13]), S36⟩
      · rw [if_neg c39] at wr59
        try simp only [↓WD, W0, evalOp, Nat.reduceEqDiff, Nat.reduceLT, ↓reduceIte, reduceCtorEq, hl, e0, e1, e12, e13, e14]
        obtain rfl := Option.some.inj wr59
        rw [KP_nil, QL_exit]
        exact ⟨_, rfl, .inl ⟨_, rfl, rfl, (by simp only [List.length_set, hl]), S36⟩⟩
    · exact ⟨(by simp only [List.length_set, hl]), (by simp only [W0, Nat.reduceEqDiff, Nat.reduceLT, ↓reduceIte, hl, e0, e1, e12, e13]), (by simp only [W0, Nat.reduceEqDiff, Nat.reduceLT, ↓reduceIte, hl, e0, e1, e12, e13]), (by simp only [W0, Nat.reduceEqDiff, Nat.reduceLT, ↓reduceIte, hl, e0, e1, e12, e13]), (by simp only [W0, Nat.reduceEqDiff, Nat.reduceLT, ↓reduceIte, hl, e0, e1, e12, e13]), S0⟩
    · intro x envr59 h61 hk
      rcases hk with ⟨t60, rfl, rfl, hl, S62⟩ | ⟨t63, rfl, rfl, hl, e4, S65⟩
      · skip
        rw [sumK_inl] at hF
        try simp only [↓WD, W0, evalOp, Nat.reduceEqDiff, Nat.reduceLT, ↓reduceIte, reduceCtorEq, hl]
        rw [AW_region]
        refine AE_joinR (fun e h' => h61 = h' ∧ e.length = 26 ∧ e.getD 4 .undef = .bool true) (by
          simp only [↓WE, WA, WL, aop, ofValue, ofCell, isConst, abin, acall1, abuiltin, aun, AV.cells, AV.one, Nat.reduceAdd, Int.reduceLT, Int.reduceLE, ↓WD, W0, evalOp, Nat.reduceEqDiff, Nat.reduceLT, ↓reduceIte, reduceCtorEq, hl]
          exact ⟨rfl, (by simp only [List.length_set, hl]), (by simp only [W0, Nat.reduceEqDiff, Nat.reduceLT, ↓reduceIte, hl])⟩) ?_
        rintro envg66 _ ⟨rfl, hl, e4⟩
        try simp only [↓WD, W0, evalOp, Nat.reduceEqDiff, Nat.reduceLT, ↓reduceIte, reduceCtorEq, hl, e4]
        refine KP_ret (vs := [.bool true]) (by simp only [aresults, aresult, gs, List.length_set, Nat.reduceEqDiff, Nat.reduceLT, ↓reduceIte, hl, e4]) ?_
        obtain rfl := Option.some.inj hF
        exact ⟨rfl, S62⟩
      · skip
        rw [sumK_inr] at hF
        try simp only [↓WD, W0, evalOp, Nat.reduceEqDiff, Nat.reduceLT, ↓reduceIte, reduceCtorEq, hl, e4]
        refine KP_ret (vs := [.bool false]) (by simp only [aresults, aresult, gs, List.length_set, Nat.reduceEqDiff, Nat.reduceLT, ↓reduceIte, hl, e4]) ?_
        obtain rfl := Option.some.inj hF
        exact ⟨rfl, S65⟩
end Go.Proofs.YtikkpmmhejjpaaaM
