/- The abstract machine computes what the plain functions say: printed by lift.py. -/
import Derived.Test.YtikkpmmhejjpaaaDEW0
set_option linter.unusedSimpArgs false
set_option linter.unusedVariables false
namespace Go.Proofs.YtikkpmmhejjpaaaM
open Go Go.RowKit
set_option maxRecDepth 100000 in
set_option maxHeartbeats 4000000 in
theorem W_delta_maker_found {K : PureK} (n74 : K 74 = none) (m : Nat) (hm : NF + 1 ≤ m) (h : AH) (im_ : Nat) (p0m_ : AV) (v0m_ : AV) (i2m_ : Nat) (m_ : Gdelta_maker) (hokm_ : ∀ e ∈ ([.blk im_ [.str m_.xold, .str m_.xto, p0m_, v0m_, .int .i64 m_.xsaid, .map i2m_] 110, .buf im_ 2 p0m_ v0m_ 5 m_.xout, .mp i2m_ (GMap.cells AV.str (AV.int .i64) m_.xblocks) (GMap.clock m_.xblocks)] : List Ent), e.ok h) (hndm_ : (([.blk im_ [.str m_.xold, .str m_.xto, p0m_, v0m_, .int .i64 m_.xsaid, .map i2m_] 110, .buf im_ 2 p0m_ v0m_ 5 m_.xout, .mp i2m_ (GMap.cells AV.str (AV.int .i64) m_.xblocks) (GMap.clock m_.xblocks)] : List Ent).flatMap Ent.ids).Nodup) (at_ : Int) {r : Gdelta_maker × Int × Int × Int} (hF : F_delta_maker_found m_ at_ = some r) :
    AR (acall Try.prog (hooksOf K) (drawnOf Try.prog (tabOf K)) m 74 [.ptr im_ 0, .int .i64 at_] h) (fun v h' => ∃ xp0m_ : AV, ∃ xv0m_ : AV, ∃ xi2m_ : Nat, v = .tup [.int .i64 r.2.1, .int .i64 r.2.2.1, .int .i64 r.2.2.2] ∧ Sep h (([.blk im_ [.str m_.xold, .str m_.xto, p0m_, v0m_, .int .i64 m_.xsaid, .map i2m_] 110, .buf im_ 2 p0m_ v0m_ 5 m_.xout, .mp i2m_ (GMap.cells AV.str (AV.int .i64) m_.xblocks) (GMap.clock m_.xblocks)] : List Ent).flatMap Ent.ids) h' [.blk im_ [.str r.1.xold, .str r.1.xto, xp0m_, xv0m_, .int .i64 r.1.xsaid, .map xi2m_] 110, .buf im_ 2 xp0m_ xv0m_ 5 r.1.xout, .mp xi2m_ (GMap.cells AV.str (AV.int .i64) r.1.xblocks) (GMap.clock r.1.xblocks)]) := by
  obtain ⟨m, rfl⟩ : ∃ k, m = k + 1 := ⟨m - 1, by omega⟩
  refine AR_call (hooksOf_none n74) Try.func74 rfl _ _ fun env hl he => ?_
  have e0 := he 0
  have e1 := he 1
  simp only [List.getD_cons_zero, List.getD_cons_succ] at e0 e1
  simp only [Try.f74] at hl ⊢
  simp only [List.length_cons, List.length_nil, Nat.reduceAdd, Nat.reduceSub] at hl
  clear he
  have S0 : Sep h (([.blk im_ [.str m_.xold, .str m_.xto, p0m_, v0m_, .int .i64 m_.xsaid, .map i2m_] 110, .buf im_ 2 p0m_ v0m_ 5 m_.xout, .mp i2m_ (GMap.cells AV.str (AV.int .i64) m_.xblocks) (GMap.clock m_.xblocks)] : List Ent).flatMap Ent.ids) h [.blk im_ [.str m_.xold, .str m_.xto, p0m_, v0m_, .int .i64 m_.xsaid, .map i2m_] 110, .buf im_ 2 p0m_ v0m_ 5 m_.xout, .mp i2m_ (GMap.cells AV.str (AV.int .i64) m_.xblocks) (GMap.clock m_.xblocks)] := Sep.lendN hokm_ hndm_
  rw [F_delta_maker_found] at hF
  try simp only [↓WD, W0, evalOp, Nat.reduceEqDiff, Nat.reduceLT, ↓reduceIte, reduceCtorEq, hl, e0, e1]
  rw [AW_region]
  refine AE_joinR (fun e h' => h = h' ∧ e.length = 106 ∧ e.getD 0 .undef = .ptr im_ 0 ∧ e.getD 1 .undef = .int .i64 at_) (by
    simp only [↓WE, WA, WL, aop, ofValue, ofCell, isConst, abin, acall1, abuiltin, aun, AV.cells, AV.one, Nat.reduceAdd, Int.reduceLT, Int.reduceLE, ↓WD, W0, evalOp, Nat.reduceEqDiff, Nat.reduceLT, ↓reduceIte, reduceCtorEq, hl, e0, e1]
    exact ⟨rfl, (by simp only [List.length_set, hl]), (by simp only [W0, Nat.reduceEqDiff, Nat.reduceLT, ↓reduceIte, hl, e0, e1]), (by simp only [W0, Nat.reduceEqDiff, Nat.reduceLT, ↓reduceIte, hl, e0, e1])⟩) ?_
  rintro envg1 _ ⟨rfl, hl, e0, e1⟩
  try simp only [↓WD, W0, evalOp, Nat.reduceEqDiff, Nat.reduceLT, ↓reduceIte, reduceCtorEq, hl, e0, e1]
  rw [AW_drawn, AE_drawnK Ksub.nil (by kernel_rfl)]
  have ol2 := S0.load (P := Try.prog) 0 rfl (t := 108) (off := 5) (v := .map i2m_) (by simp only [apart, ag_108, sz_108]; rfl)
  have ol3 := S0.load (P := Try.prog) 0 rfl (t := 9) (off := 1) (v := .str m_.xto) (by simp only [apart, ag_9, sz_9]; rfl)
  obtain ⟨s4, qs4, hF⟩ := obind hF
  have os4 := fun g : AH => sub_str (P := Try.prog) (h := g) (k := .i64) (k' := .i64) Try.underlying9 qs4
  have om5 := (Sep.mlookup (P := Try.prog) mp_108 ky_108 (z := 0) (fv := (AV.int .i64)) zero_3 S0 2 rfl s4).1
  refine AE_joinR (fun e h' => h = h' ∧ e.length = 106 ∧ e.getD 0 .undef = .ptr im_ 0 ∧ e.getD 1 .undef = .int .i64 at_ ∧ e.getD 7 .undef = .int .i64 ((mget m_.xblocks s4).getD 0) ∧ e.getD 8 .undef = .bool ((mget m_.xblocks s4).isSome)) (by
    simp only [↓WE, WA, WL, aop, ofValue, ofCell, isConst, abin, acall1, abuiltin, aun, AV.cells, AV.one, Nat.reduceAdd, Int.reduceLT, Int.reduceLE, ↓WD, W0, evalOp, Nat.reduceEqDiff, Nat.reduceLT, ↓reduceIte, reduceCtorEq, hl, e0, e1, fa_110_4, ol2, fa_110_1, ol3, os4, om5]
    exact ⟨rfl, (by simp only [List.length_set, hl]), (by simp only [W0, Nat.reduceEqDiff, Nat.reduceLT, ↓reduceIte, hl, e0, e1]), (by simp only [W0, Nat.reduceEqDiff, Nat.reduceLT, ↓reduceIte, hl, e0, e1]), (by simp only [W0, Nat.reduceEqDiff, Nat.reduceLT, ↓reduceIte, hl, e0, e1]), (by simp only [W0, Nat.reduceEqDiff, Nat.reduceLT, ↓reduceIte, hl, e0, e1])⟩) ?_
  rintro envg6 _ ⟨rfl, hl, e0, e1, e7, e8⟩
  try simp only [↓WD, W0, evalOp, Nat.reduceEqDiff, Nat.reduceLT, ↓reduceIte, reduceCtorEq, hl, e0, e1, e7, e8]
  rw [AW_region]
  refine AE_joinR (fun e h' => h = h' ∧ e.length = 106 ∧ e.getD 0 .undef = .ptr im_ 0 ∧ e.getD 1 .undef = .int .i64 at_ ∧ e.getD 7 .undef = .int .i64 ((mget m_.xblocks s4).getD 0) ∧ e.getD 28 .undef = .bool (!((mget m_.xblocks s4).isSome))) (by
    simp only [↓WE, WA, WL, aop, ofValue, ofCell, isConst, abin, acall1, abuiltin, aun, AV.cells, AV.one, Nat.reduceAdd, Int.reduceLT, Int.reduceLE, ↓WD, W0, evalOp, Nat.reduceEqDiff, Nat.reduceLT, ↓reduceIte, reduceCtorEq, hl, e0, e1, e7, e8]
    exact ⟨rfl, (by simp only [List.length_set, hl]), (by simp only [W0, Nat.reduceEqDiff, Nat.reduceLT, ↓reduceIte, hl, e0, e1, e7, e8]), (by simp only [W0, Nat.reduceEqDiff, Nat.reduceLT, ↓reduceIte, hl, e0, e1, e7, e8]), (by simp only [W0, Nat.reduceEqDiff, Nat.reduceLT, ↓reduceIte, hl, e0, e1, e7, e8]), (by simp only [W0, Nat.reduceEqDiff, Nat.reduceLT, ↓reduceIte, hl, e0, e1, e7, e8])⟩) ?_
  rintro envg7 _ ⟨rfl, hl, e0, e1, e7, e28⟩
  try simp only [↓WD, W0, evalOp, Nat.reduceEqDiff, Nat.reduceLT, ↓reduceIte, reduceCtorEq, hl, e0, e1, e7, e28]
  refine CondK_boo (fun c10 => ?_) (fun c10 => ?_)
  · rw [if_pos c10] at hF
    try simp only [↓WD, W0, evalOp, Nat.reduceEqDiff, Nat.reduceLT, ↓reduceIte, reduceCtorEq, hl, e0, e1, e7, e28]
    rw [AW_region]
    refine AE_joinR (fun e h' => h = h' ∧ e.length = 106 ∧ e.getD 4 .undef = .int .i64 0 ∧ e.getD 5 .undef = .int .i64 0 ∧ e.getD 6 .undef = .int .i64 0) (by
      simp only [↓WE, WA, WL, aop, ofValue, ofCell, isConst, abin, acall1, abuiltin, aun, AV.cells, AV.one, Nat.reduceAdd, Int.reduceLT, Int.reduceLE, ↓WD, W0, evalOp, Nat.reduceEqDiff, Nat.reduceLT, ↓reduceIte, reduceCtorEq, hl, e0, e1, e7, e28]
      exact ⟨rfl, (by simp only [List.length_set, hl]), (by simp only [W0, Nat.reduceEqDiff, Nat.reduceLT, ↓reduceIte, hl, e0, e1, e7, e28]), (by simp only [W0, Nat.reduceEqDiff, Nat.reduceLT, ↓reduceIte, hl, e0, e1, e7, e28]), (by simp only [W0, Nat.reduceEqDiff, Nat.reduceLT, ↓reduceIte, hl, e0, e1, e7, e28])⟩) ?_
    rintro envg11 _ ⟨rfl, hl, e4, e5, e6⟩
    try simp only [↓WD, W0, evalOp, Nat.reduceEqDiff, Nat.reduceLT, ↓reduceIte, reduceCtorEq, hl, e4, e5, e6]
    refine KP_ret (vs := [.int .i64 0, .int .i64 0, .int .i64 0]) (by simp only [aresults, aresult, gs, List.length_set, Nat.reduceEqDiff, Nat.reduceLT, ↓reduceIte, hl, e4, e5, e6]) ?_
    obtain rfl := Option.some.inj hF
    exact ⟨p0m_, v0m_, i2m_, rfl, S0⟩
  · rw [if_neg (nf c10)] at hF
    try simp only [↓WD, W0, evalOp, Nat.reduceEqDiff, Nat.reduceLT, ↓reduceIte, reduceCtorEq, hl, e0, e1, e7, e28]
    rw [AW_region]
    refine AE_joinR (fun e h' => h = h' ∧ e.length = 106 ∧ e.getD 0 .undef = .ptr im_ 0 ∧ e.getD 1 .undef = .int .i64 at_ ∧ e.getD 7 .undef = .int .i64 ((mget m_.xblocks s4).getD 0) ∧ e.getD 9 .undef = .int .i64 0) (by
      simp only [↓WE, WA, WL, aop, ofValue, ofCell, isConst, abin, acall1, abuiltin, aun, AV.cells, AV.one, Nat.reduceAdd, Int.reduceLT, Int.reduceLE, ↓WD, W0, evalOp, Nat.reduceEqDiff, Nat.reduceLT, ↓reduceIte, reduceCtorEq, hl, e0, e1, e7, e28]
      exact ⟨rfl, (by simp only [List.length_set, hl]), (by simp only [W0, Nat.reduceEqDiff, Nat.reduceLT, ↓reduceIte, hl, e0, e1, e7, e28]), (by simp only [W0, Nat.reduceEqDiff, Nat.reduceLT, ↓reduceIte, hl, e0, e1, e7, e28]), (by simp only [W0, Nat.reduceEqDiff, Nat.reduceLT, ↓reduceIte, hl, e0, e1, e7, e28]), (by simp only [W0, Nat.reduceEqDiff, Nat.reduceLT, ↓reduceIte, hl, e0, e1, e7, e28])⟩) ?_
    rintro envg12 _ ⟨rfl, hl, e0, e1, e7, e9⟩
    try simp only [↓WD, W0, evalOp, Nat.reduceEqDiff, Nat.reduceLT, ↓reduceIte, reduceCtorEq, hl, e0, e1, e7, e9]
    obtain ⟨r45, qr45, hF⟩ := obind hF
    refine AW_lift (L_delta_maker_found_1 m_ s4 at_) (fun s e h' => e.length = 106 ∧ e.getD 0 .undef = .ptr im_ 0 ∧ e.getD 1 .undef = .int .i64 at_ ∧ e.getD 7 .undef = .int .i64 ((mget m_.xblocks s4).getD 0) ∧ e.getD 9 .undef = .int .i64 s ∧ Sep h (([.blk im_ [.str m_.xold, .str m_.xto, p0m_, v0m_, .int .i64 m_.xsaid, .map i2m_] 110, .buf im_ 2 p0m_ v0m_ 5 m_.xout, .mp i2m_ (GMap.cells AV.str (AV.int .i64) m_.xblocks) (GMap.clock m_.xblocks)] : List Ent).flatMap Ent.ids) h' [.blk im_ [.str m_.xold, .str m_.xto, p0m_, v0m_, .int .i64 m_.xsaid, .map i2m_] 110, .buf im_ 2 p0m_ v0m_ 5 m_.xout, .mp i2m_ (GMap.cells AV.str (AV.int .i64) m_.xblocks) (GMap.clock m_.xblocks)]) (fun r45 x e h' => x = .exit 0 ∧ e.length = 106 ∧ e.getD 0 .undef = .ptr im_ 0 ∧ e.getD 1 .undef = .int .i64 at_ ∧ e.getD 7 .undef = .int .i64 ((mget m_.xblocks s4).getD 0) ∧ e.getD 9 .undef = .int .i64 r45 ∧ Sep h (([.blk im_ [.str m_.xold, .str m_.xto, p0m_, v0m_, .int .i64 m_.xsaid, .map i2m_] 110, .buf im_ 2 p0m_ v0m_ 5 m_.xout, .mp i2m_ (GMap.cells AV.str (AV.int .i64) m_.xblocks) (GMap.clock m_.xblocks)] : List Ent).flatMap Ent.ids) h' [.blk im_ [.str m_.xold, .str m_.xto, p0m_, v0m_, .int .i64 m_.xsaid, .map i2m_] 110, .buf im_ 2 p0m_ v0m_ 5 m_.xout, .mp i2m_ (GMap.cells AV.str (AV.int .i64) m_.xblocks) (GMap.clock m_.xblocks)]) qr45 (by omega) ?_ ?_ ?_
    · rintro s envr45 h29 or45 ⟨hl, e0, e1, e7, e9, S30⟩ wr45
      rw [L_delta_maker_found_1] at wr45
      try simp only [↓WD, W0, evalOp, Nat.reduceEqDiff, Nat.reduceLT, ↓reduceIte, reduceCtorEq, hl, e0, e1, e7, e9]
      rw [AW_drawn, AE_drawnK Ksub.nil (by kernel_rfl)]
      obtain ⟨j39, qj39, wr45⟩ := obind wr45
      refine AE_joinR (fun e h' => e.length = 106 ∧ e.getD 0 .undef = .ptr im_ 0 ∧ e.getD 1 .undef = .int .i64 at_ ∧ e.getD 7 .undef = .int .i64 ((mget m_.xblocks s4).getD 0) ∧ e.getD 9 .undef = .int .i64 s ∧ e.getD 59 .undef = .bool j39 ∧ Sep h (([.blk im_ [.str m_.xold, .str m_.xto, p0m_, v0m_, .int .i64 m_.xsaid, .map i2m_] 110, .buf im_ 2 p0m_ v0m_ 5 m_.xout, .mp i2m_ (GMap.cells AV.str (AV.int .i64) m_.xblocks) (GMap.clock m_.xblocks)] : List Ent).flatMap Ent.ids) h' [.blk im_ [.str m_.xold, .str m_.xto, p0m_, v0m_, .int .i64 m_.xsaid, .map i2m_] 110, .buf im_ 2 p0m_ v0m_ 5 m_.xout, .mp i2m_ (GMap.cells AV.str (AV.int .i64) m_.xblocks) (GMap.clock m_.xblocks)]) ?_ ?_
      · have ol31 := S30.load (P := Try.prog) 0 rfl (t := 3) (off := 4) (v := .int .i64 m_.xsaid) (by simp only [apart, ag_3, sz_3]; rfl)
        simp only [↓WE, WA, WL, aop, ofValue, ofCell, isConst, abin, acall1, abuiltin, aun, AV.cells, AV.one, Nat.reduceAdd, Int.reduceLT, Int.reduceLE, ↓WD, W0, evalOp, Nat.reduceEqDiff, Nat.reduceLT, ↓reduceIte, reduceCtorEq, hl, e0, e1, e7, e9, fa_110_3, ol31]
        refine GuardW_dec (fun c32 => ?_) (fun c32 => ?_)
        · rw [if_pos c32] at qj39
          have d33 : (decide (s < (minI ((mget m_.xblocks s4).getD 0) (IntKind.i64.wrap (at_ - m_.xsaid))))) = true := decide_eq_true c32
          have ol35 := S30.load (P := Try.prog) 0 rfl (t := 9) (off := 0) (v := .str m_.xold) (by simp only [apart, ag_9, sz_9]; rfl)
          obtain ⟨c36, qc36, qj39⟩ := obind qj39
          have oc36 := idx_str (P := Try.prog) (k := .i64) Try.underlying9 qc36
          have ol37 := S30.load (P := Try.prog) 0 rfl (t := 9) (off := 1) (v := .str m_.xto) (by simp only [apart, ag_9, sz_9]; rfl)
          obtain ⟨c38, qc38, qj39⟩ := obind qj39
          have oc38 := idx_str (P := Try.prog) (k := .i64) Try.underlying9 qc38
          simp only [↓WE, WA, WL, aop, ofValue, ofCell, isConst, abin, acall1, abuiltin, aun, AV.cells, AV.one, Nat.reduceAdd, Int.reduceLT, Int.reduceLE, ↓WD, W0, evalOp, Nat.reduceEqDiff, Nat.reduceLT, ↓reduceIte, reduceCtorEq, hl, e0, e1, e7, e9, fa_110_3, ol31, fa_110_0, ol35, oc36, fa_110_1, ol37, oc38, d33]
          obtain rfl := Option.some.inj qj39
          exact ⟨(by simp only [List.length_set, hl]), (by simp only [W0, Nat.reduceEqDiff, Nat.reduceLT, ↓reduceIte, hl, e0, e1, e7, e9]), (by simp only [W0, Nat.reduceEqDiff, Nat.reduceLT, ↓reduceIte, hl, e0, e1, e7, e9]), (by simp only [W0, Nat.reduceEqDiff, Nat.reduceLT, ↓reduceIte, hl, e0, e1, e7, e9]), (by simp only [W0, Nat.reduceEqDiff, Nat.reduceLT, ↓reduceIte, hl, e0, e1, e7, e9]), (by simp only [W0, Nat.reduceEqDiff, Nat.reduceLT, ↓reduceIte, hl, e0, e1, e7, e9]), S30⟩
        · rw [if_neg c32] at qj39
          have d34 : (decide (s < (minI ((mget m_.xblocks s4).getD 0) (IntKind.i64.wrap (at_ - m_.xsaid))))) = false := decide_eq_false c32
          simp only [↓WE, WA, WL, aop, ofValue, ofCell, isConst, abin, acall1, abuiltin, aun, AV.cells, AV.one, Nat.reduceAdd, Int.reduceLT, Int.reduceLE, ↓WD, W0, evalOp, Nat.reduceEqDiff, Nat.reduceLT, ↓reduceIte, reduceCtorEq, hl, e0, e1, e7, e9, fa_110_3, ol31, d34]
          obtain rfl := Option.some.inj qj39
          exact ⟨(by simp only [List.length_set, hl]), (by simp only [W0, Nat.reduceEqDiff, Nat.reduceLT, ↓reduceIte, hl, e0, e1, e7, e9]), (by simp only [W0, Nat.reduceEqDiff, Nat.reduceLT, ↓reduceIte, hl, e0, e1, e7, e9]), (by simp only [W0, Nat.reduceEqDiff, Nat.reduceLT, ↓reduceIte, hl, e0, e1, e7, e9]), (by simp only [W0, Nat.reduceEqDiff, Nat.reduceLT, ↓reduceIte, hl, e0, e1, e7, e9]), (by simp only [W0, Nat.reduceEqDiff, Nat.reduceLT, ↓reduceIte, hl, e0, e1, e7, e9]), S30⟩
      · rintro envj39 h41 ⟨hl, e0, e1, e7, e9, e59, S40⟩
        try simp only [↓WD, W0, evalOp, Nat.reduceEqDiff, Nat.reduceLT, ↓reduceIte, reduceCtorEq, hl, e0, e1, e7, e9, e59]
        refine CondK_boo (fun c43 => ?_) (fun c43 => ?_)
        · rw [if_pos c43] at wr45
          try simp only [↓WD, W0, evalOp, Nat.reduceEqDiff, Nat.reduceLT, ↓reduceIte, reduceCtorEq, hl, e0, e1, e7, e9, e59]
          rw [AW_region]
          refine AE_joinR (fun e h' => h41 = h' ∧ e.length = 106 ∧ e.getD 0 .undef = .ptr im_ 0 ∧ e.getD 1 .undef = .int .i64 at_ ∧ e.getD 7 .undef = .int .i64 ((mget m_.xblocks s4).getD 0) ∧ e.getD 9 .undef = .int .i64 (IntKind.i64.wrap (s + 1))) (by
            simp only [↓WE, WA, WL, aop, ofValue, ofCell, isConst, abin, acall1, abuiltin, aun, AV.cells, AV.one, Nat.reduceAdd, Int.reduceLT, Int.reduceLE, ↓WD, W0, evalOp, Nat.reduceEqDiff, Nat.reduceLT, ↓reduceIte, reduceCtorEq, hl, e0, e1, e7, e9, e59]
            exact ⟨rfl, (by simp only [List.length_set, hl]), (by simp only [W0, Nat.reduceEqDiff, Nat.reduceLT, ↓reduceIte, hl, e0, e1, e7, e9, e59]), (by simp only [W0, Nat.reduceEqDiff, Nat.reduceLT, ↓reduceIte, hl, e0, e1, e7, e9, e59]), (by simp only [W0, Nat.reduceEqDiff, Nat.reduceLT, ↓reduceIte, hl, e0, e1, e7, e9, e59]), (by simp only [W0, Nat.reduceEqDiff, Nat.reduceLT, ↓reduceIte, hl, e0, e1, e7, e9, e59])⟩) ?_
          rintro envg44 _ ⟨rfl, hl, e0, e1, e7, e9⟩
          try simp only [↓WD, W0, evalOp, Nat.reduceEqDiff, Nat.reduceLT, ↓reduceIte, reduceCtorEq, hl, e0, e1, e7, e9]
          obtain rfl := Option.some.inj wr45
          rw [KP_nil, QL_normal]
          exact ⟨_, rfl, (by simp only [List.length_set, hl]), (by simp only [W0, Nat.reduceEqDiff, Nat.reduceLT, ↓reduceIte, hl, e0, e1, e7, e9]), (by simp only [W0, Nat.reduceEqDiff, Nat.reduceLT, ↓reduceIte, hl, e0, e1, e7, e9]), (by simp only [W0, Nat.reduceEqDiff, Nat.reduceLT, ↓reduceIte, hl, e0, e1, e7, e9]), (by simp only [W0, Nat.reduceEqDiff, Nat.reduceLT, ↓reduceIte, hl, e0, e1, e7, e9]), S40⟩
        · rw [if_neg (nf c43)] at wr45
          try simp only [↓WD, W0, evalOp, Nat.reduceEqDiff, Nat.reduceLT, ↓reduceIte, reduceCtorEq, hl, e0, e1, e7, e9, e59]
          obtain rfl := Option.some.inj wr45
          rw [KP_nil, QL_exit]
          exact ⟨_, rfl, rfl, (by simp only [List.length_set, hl]), (by simp only [W0, Nat.reduceEqDiff, Nat.reduceLT, ↓reduceIte, hl, e0, e1, e7, e9, e59]), (by simp only [W0, Nat.reduceEqDiff, Nat.reduceLT, ↓reduceIte, hl, e0, e1, e7, e9, e59]), (by simp only [W0, Nat.reduceEqDiff, Nat.reduceLT, ↓reduceIte, hl, e0, e1, e7, e9, e59]), (by simp only [W0, Nat.reduceEqDiff, Nat.reduceLT, ↓reduceIte, hl, e0, e1, e7, e9, e59]), S40⟩
    · exact ⟨(by simp only [List.length_set, hl]), (by simp only [W0, Nat.reduceEqDiff, Nat.reduceLT, ↓reduceIte, hl, e0, e1, e7, e9]), (by simp only [W0, Nat.reduceEqDiff, Nat.reduceLT, ↓reduceIte, hl, e0, e1, e7, e9]), (by simp only [W0, Nat.reduceEqDiff, Nat.reduceLT, ↓reduceIte, hl, e0, e1, e7, e9]), (by simp only [W0, Nat.reduceEqDiff, Nat.reduceLT, ↓reduceIte, hl, e0, e1, e7, e9]), S0⟩
    · rintro x envr45 h46 ⟨rfl, hl, e0, e1, e7, e9, S47⟩
      try simp only [↓WD, W0, evalOp, Nat.reduceEqDiff, Nat.reduceLT, ↓reduceIte, reduceCtorEq, hl, e0, e1, e7, e9]
      rw [AW_region]
      refine AE_joinR (fun e h' => h46 = h' ∧ e.length = 106 ∧ e.getD 0 .undef = .ptr im_ 0 ∧ e.getD 1 .undef = .int .i64 at_ ∧ e.getD 7 .undef = .int .i64 ((mget m_.xblocks s4).getD 0) ∧ e.getD 9 .undef = .int .i64 r45 ∧ e.getD 10 .undef = .int .i64 16) (by
        simp only [↓WE, WA, WL, aop, ofValue, ofCell, isConst, abin, acall1, abuiltin, aun, AV.cells, AV.one, Nat.reduceAdd, Int.reduceLT, Int.reduceLE, ↓WD, W0, evalOp, Nat.reduceEqDiff, Nat.reduceLT, ↓reduceIte, reduceCtorEq, hl, e0, e1, e7, e9]
        exact ⟨rfl, (by simp only [List.length_set, hl]), (by simp only [W0, Nat.reduceEqDiff, Nat.reduceLT, ↓reduceIte, hl, e0, e1, e7, e9]), (by simp only [W0, Nat.reduceEqDiff, Nat.reduceLT, ↓reduceIte, hl, e0, e1, e7, e9]), (by simp only [W0, Nat.reduceEqDiff, Nat.reduceLT, ↓reduceIte, hl, e0, e1, e7, e9]), (by simp only [W0, Nat.reduceEqDiff, Nat.reduceLT, ↓reduceIte, hl, e0, e1, e7, e9]), (by simp only [W0, Nat.reduceEqDiff, Nat.reduceLT, ↓reduceIte, hl, e0, e1, e7, e9])⟩) ?_
      rintro envg48 _ ⟨rfl, hl, e0, e1, e7, e9, e10⟩
      try simp only [↓WD, W0, evalOp, Nat.reduceEqDiff, Nat.reduceLT, ↓reduceIte, reduceCtorEq, hl, e0, e1, e7, e9, e10]
      obtain ⟨r93, qr93, hF⟩ := obind hF
      refine AW_lift (L_delta_maker_found_2 m_ s4 at_) (fun s e h' => e.length = 106 ∧ e.getD 0 .undef = .ptr im_ 0 ∧ e.getD 1 .undef = .int .i64 at_ ∧ e.getD 7 .undef = .int .i64 ((mget m_.xblocks s4).getD 0) ∧ e.getD 9 .undef = .int .i64 r45 ∧ e.getD 10 .undef = .int .i64 s ∧ Sep h (([.blk im_ [.str m_.xold, .str m_.xto, p0m_, v0m_, .int .i64 m_.xsaid, .map i2m_] 110, .buf im_ 2 p0m_ v0m_ 5 m_.xout, .mp i2m_ (GMap.cells AV.str (AV.int .i64) m_.xblocks) (GMap.clock m_.xblocks)] : List Ent).flatMap Ent.ids) h' [.blk im_ [.str m_.xold, .str m_.xto, p0m_, v0m_, .int .i64 m_.xsaid, .map i2m_] 110, .buf im_ 2 p0m_ v0m_ 5 m_.xout, .mp i2m_ (GMap.cells AV.str (AV.int .i64) m_.xblocks) (GMap.clock m_.xblocks)]) (fun r93 x e h' => x = .exit 2 ∧ e.length = 106 ∧ e.getD 7 .undef = .int .i64 ((mget m_.xblocks s4).getD 0) ∧ e.getD 9 .undef = .int .i64 r45 ∧ e.getD 10 .undef = .int .i64 r93 ∧ Sep h (([.blk im_ [.str m_.xold, .str m_.xto, p0m_, v0m_, .int .i64 m_.xsaid, .map i2m_] 110, .buf im_ 2 p0m_ v0m_ 5 m_.xout, .mp i2m_ (GMap.cells AV.str (AV.int .i64) m_.xblocks) (GMap.clock m_.xblocks)] : List Ent).flatMap Ent.ids) h' [.blk im_ [.str m_.xold, .str m_.xto, p0m_, v0m_, .int .i64 m_.xsaid, .map i2m_] 110, .buf im_ 2 p0m_ v0m_ 5 m_.xout, .mp i2m_ (GMap.cells AV.str (AV.int .i64) m_.xblocks) (GMap.clock m_.xblocks)]) qr93 (by omega) ?_ ?_ ?_
      · rintro s envr93 h71 or93 ⟨hl, e0, e1, e7, e9, e10, S72⟩ wr93
        rw [L_delta_maker_found_2] at wr93
        try simp only [↓WD, W0, evalOp, Nat.reduceEqDiff, Nat.reduceLT, ↓reduceIte, reduceCtorEq, hl, e0, e1, e7, e9, e10]
        rw [AW_drawn, AE_drawnK Ksub.nil (by kernel_rfl)]
        obtain ⟨j87, qj87, wr93⟩ := obind wr93
        refine AE_joinR (fun e h' => e.length = 106 ∧ e.getD 0 .undef = .ptr im_ 0 ∧ e.getD 1 .undef = .int .i64 at_ ∧ e.getD 7 .undef = .int .i64 ((mget m_.xblocks s4).getD 0) ∧ e.getD 9 .undef = .int .i64 r45 ∧ e.getD 10 .undef = .int .i64 s ∧ e.getD 100 .undef = .bool j87 ∧ Sep h (([.blk im_ [.str m_.xold, .str m_.xto, p0m_, v0m_, .int .i64 m_.xsaid, .map i2m_] 110, .buf im_ 2 p0m_ v0m_ 5 m_.xout, .mp i2m_ (GMap.cells AV.str (AV.int .i64) m_.xblocks) (GMap.clock m_.xblocks)] : List Ent).flatMap Ent.ids) h' [.blk im_ [.str m_.xold, .str m_.xto, p0m_, v0m_, .int .i64 m_.xsaid, .map i2m_] 110, .buf im_ 2 p0m_ v0m_ 5 m_.xout, .mp i2m_ (GMap.cells AV.str (AV.int .i64) m_.xblocks) (GMap.clock m_.xblocks)]) ?_ ?_
        · have ol73 := S72.load (P := Try.prog) 0 rfl (t := 9) (off := 0) (v := .str m_.xold) (by simp only [apart, ag_9, sz_9]; rfl)
          have ol74 := fun g : AH => alen_str (P := Try.prog) (h := g) (l := m_.xold) Try.underlying9
          simp only [↓WE, WA, WL, aop, ofValue, ofCell, isConst, abin, acall1, abuiltin, aun, AV.cells, AV.one, Nat.reduceAdd, Int.reduceLT, Int.reduceLE, ↓WD, W0, evalOp, Nat.reduceEqDiff, Nat.reduceLT, ↓reduceIte, reduceCtorEq, hl, e0, e1, e7, e9, e10, fa_110_0, ol73, ol74]
          refine GuardW_dec (fun c75 => ?_) (fun c75 => ?_)
          · rw [if_pos c75] at qj87
            have d76 : (decide ((IntKind.i64.wrap (((mget m_.xblocks s4).getD 0) + s)) < (m_.xold.length : Int))) = true := decide_eq_true c75
            have ol78 := S72.load (P := Try.prog) 0 rfl (t := 9) (off := 1) (v := .str m_.xto) (by simp only [apart, ag_9, sz_9]; rfl)
            have ol79 := fun g : AH => alen_str (P := Try.prog) (h := g) (l := m_.xto) Try.underlying9
            simp only [↓WE, WA, WL, aop, ofValue, ofCell, isConst, abin, acall1, abuiltin, aun, AV.cells, AV.one, Nat.reduceAdd, Int.reduceLT, Int.reduceLE, ↓WD, W0, evalOp, Nat.reduceEqDiff, Nat.reduceLT, ↓reduceIte, reduceCtorEq, hl, e0, e1, e7, e9, e10, fa_110_0, ol73, ol74, fa_110_1, ol78, ol79, d76]
            refine GuardW_dec (fun c80 => ?_) (fun c80 => ?_)
            · rw [if_pos c80] at qj87
              have d81 : (decide ((IntKind.i64.wrap (at_ + s)) < (m_.xto.length : Int))) = true := decide_eq_true c80
              have ol83 := S72.load (P := Try.prog) 0 rfl (t := 9) (off := 0) (v := .str m_.xold) (by simp only [apart, ag_9, sz_9]; rfl)
              obtain ⟨c84, qc84, qj87⟩ := obind qj87
              have oc84 := idx_str (P := Try.prog) (k := .i64) Try.underlying9 qc84
              have ol85 := S72.load (P := Try.prog) 0 rfl (t := 9) (off := 1) (v := .str m_.xto) (by simp only [apart, ag_9, sz_9]; rfl)
              obtain ⟨c86, qc86, qj87⟩ := obind qj87
              have oc86 := idx_str (P := Try.prog) (k := .i64) Try.underlying9 qc86
              simp only [↓WE, WA, WL, aop, ofValue, ofCell, isConst, abin, acall1, abuiltin, aun, AV.cells, AV.one, Nat.reduceAdd, Int.reduceLT, Int.reduceLE, ↓WD, W0, evalOp, Nat.reduceEqDiff, Nat.reduceLT, ↓reduceIte, reduceCtorEq, hl, e0, e1, e7, e9, e10, fa_110_0, ol73, ol74, fa_110_1, ol78, ol79, ol83, oc84, ol85, oc86, d76, d81]
              obtain rfl := Option.some.inj qj87
              exact ⟨(by simp only [List.length_set, hl]), (by simp only [W0, Nat.reduceEqDiff, Nat.reduceLT, ↓reduceIte, hl, e0, e1, e7, e9, e10]), (by simp only [W0, Nat.reduceEqDiff, Nat.reduceLT, ↓reduceIte, hl, e0, e1, e7, e9, e10]), (by simp only [W0, Nat.reduceEqDiff, Nat.reduceLT, ↓reduceIte, hl, e0, e1, e7, e9, e10]), (by simp only [W0, Nat.reduceEqDiff, Nat.reduceLT, ↓reduceIte, hl, e0, e1, e7, e9, e10]), (by simp only [W0, Nat.reduceEqDiff, Nat.reduceLT, ↓reduceIte, hl, e0, e1, e7, e9, e10]), (by simp only [W0, Nat.reduceEqDiff, Nat.reduceLT, ↓reduceIte, hl, e0, e1, e7, e9, e10]), S72⟩
            · rw [if_neg c80] at qj87
              have d82 : (decide ((IntKind.i64.wrap (at_ + s)) < (m_.xto.length : Int))) = false := decide_eq_false c80
              simp only [↓WE, WA, WL, aop, ofValue, ofCell, isConst, abin, acall1, abuiltin, aun, AV.cells, AV.one, Nat.reduceAdd, Int.reduceLT, Int.reduceLE, ↓WD, W0, evalOp, Nat.reduceEqDiff, Nat.reduceLT, ↓reduceIte, reduceCtorEq, hl, e0, e1, e7, e9, e10, fa_110_0, ol73, ol74, fa_110_1, ol78, ol79, d76, d82]
              obtain rfl := Option.some.inj qj87
              exact ⟨(by simp only [List.length_set, hl]), (by simp only [W0, Nat.reduceEqDiff, Nat.reduceLT, ↓reduceIte, hl, e0, e1, e7, e9, e10]), (by simp only [W0, Nat.reduceEqDiff, Nat.reduceLT, ↓reduceIte, hl, e0, e1, e7, e9, e10]), (by simp only [W0, Nat.reduceEqDiff, Nat.reduceLT, ↓reduceIte, hl, e0, e1, e7, e9, e10]), (by simp only [W0, Nat.reduceEqDiff, Nat.reduceLT, ↓reduceIte, hl, e0, e1, e7, e9, e10]), (by simp only [W0, Nat.reduceEqDiff, Nat.reduceLT, ↓reduceIte, hl, e0, e1, e7, e9, e10]), (by simp only [W0, Nat.reduceEqDiff, Nat.reduceLT, ↓reduceIte, hl, e0, e1, e7, e9, e10]), S72⟩
          · rw [if_neg c75] at qj87
            have d77 : (decide ((IntKind.i64.wrap (((mget m_.xblocks s4).getD 0) + s)) < (m_.xold.length : Int))) = false := decide_eq_false c75
            simp only [↓WE, WA, WL, aop, ofValue, ofCell, isConst, abin, acall1, abuiltin, aun, AV.cells, AV.one, Nat.reduceAdd, Int.reduceLT, Int.reduceLE, ↓WD, W0, evalOp, Nat.reduceEqDiff, Nat.reduceLT, ↓reduceIte, reduceCtorEq, hl, e0, e1, e7, e9, e10, fa_110_0, ol73, ol74, d77]
            obtain rfl := Option.some.inj qj87
            exact ⟨(by simp only [List.length_set, hl]), (by simp only [W0, Nat.reduceEqDiff, Nat.reduceLT, ↓reduceIte, hl, e0, e1, e7, e9, e10]), (by simp only [W0, Nat.reduceEqDiff, Nat.reduceLT, ↓reduceIte, hl, e0, e1, e7, e9, e10]), (by simp only [W0, Nat.reduceEqDiff, Nat.reduceLT, ↓reduceIte, hl, e0, e1, e7, e9, e10]), (by simp only [W0, Nat.reduceEqDiff, Nat.reduceLT, ↓reduceIte, hl, e0, e1, e7, e9, e10]), (by simp only [W0, Nat.reduceEqDiff, Nat.reduceLT, ↓reduceIte, hl, e0, e1, e7, e9, e10]), (by simp only [W0, Nat.reduceEqDiff, Nat.reduceLT, ↓reduceIte, hl, e0, e1, e7, e9, e10]), S72⟩
        · rintro envj87 h89 ⟨hl, e0, e1, e7, e9, e10, e100, S88⟩
          try simp only [↓WD, W0, evalOp, Nat.reduceEqDiff, Nat.reduceLT, ↓reduceIte, reduceCtorEq, hl, e0, e1, e7, e9, e10, e100]
          refine CondK_boo (fun c91 => ?_) (fun c91 => ?_)
          · rw [if_pos c91] at wr93
            try simp only [↓WD, W0, evalOp, Nat.reduceEqDiff, Nat.reduceLT, ↓reduceIte, reduceCtorEq, hl, e0, e1, e7, e9, e10, e100]
            rw [AW_region]
            refine AE_joinR (fun e h' => h89 = h' ∧ e.length = 106 ∧ e.getD 0 .undef = .ptr im_ 0 ∧ e.getD 1 .undef = .int .i64 at_ ∧ e.getD 7 .undef = .int .i64 ((mget m_.xblocks s4).getD 0) ∧ e.getD 9 .undef = .int .i64 r45 ∧ e.getD 10 .undef = .int .i64 (IntKind.i64.wrap (s + 1))) (by
              simp only [↓WE, WA, WL, aop, ofValue, ofCell, isConst, abin, acall1, abuiltin, aun, AV.cells, AV.one, Nat.reduceAdd, Int.reduceLT, Int.reduceLE, ↓WD, W0, evalOp, Nat.reduceEqDiff, Nat.reduceLT, ↓reduceIte, reduceCtorEq, hl, e0, e1, e7, e9, e10, e100]
              exact ⟨rfl, (by simp only [List.length_set, hl]), (by simp only [W0, Nat.reduceEqDiff, Nat.reduceLT, ↓reduceIte, hl, e0, e1, e7, e9, e10, e100]), (by simp only [W0, Nat.reduceEqDiff, Nat.reduceLT, ↓reduceIte, hl, e0, e1, e7, e9, e10, e100]), (by simp only [W0, Nat.reduceEqDiff, Nat.reduceLT, ↓reduceIte, hl, e0, e1, e7, e9, e10, e100]), (by simp only [W0, Nat.reduceEqDiff, Nat.reduceLT, ↓reduceIte, hl, e0, e1, e7, e9, e10, e100]), (by simp only [W0, Nat.reduceEqDiff, Nat.reduceLT, ↓reduceIte, hl, e0, e1, e7, e9, e10, e100])⟩) ?_
            rintro envg92 _ ⟨rfl, hl, e0, e1, e7, e9, e10⟩
            try simp only [↓WD, W0, evalOp, Nat.reduceEqDiff, Nat.reduceLT, ↓reduceIte, reduceCtorEq, hl, e0, e1, e7, e9, e10]
            obtain rfl := Option.some.inj wr93
            rw [KP_nil, QL_normal]
            exact ⟨_, rfl, (by simp only [List.length_set, hl]), (by simp only [W0, Nat.reduceEqDiff, Nat.reduceLT, ↓reduceIte, hl, e0, e1, e7, e9, e10]), (by simp only [W0, Nat.reduceEqDiff, Nat.reduceLT, ↓reduceIte, hl, e0, e1, e7, e9, e10]), (by simp only [W0, Nat.reduceEqDiff, Nat.reduceLT, ↓reduceIte, hl, e0, e1, e7, e9, e10]), (by simp only [W0, Nat.reduceEqDiff, Nat.reduceLT, ↓reduceIte, hl, e0, e1, e7, e9, e10]), (by simp only [W0, Nat.reduceEqDiff, Nat.reduceLT, ↓reduceIte, hl, e0, e1, e7, e9, e10]), S88⟩
          · rw [if_neg (nf c91)] at wr93
            try simp only [↓WD, W0, evalOp, Nat.reduceEqDiff, Nat.reduceLT, ↓reduceIte, reduceCtorEq, hl, e0, e1, e7, e9, e10, e100]
            obtain rfl := Option.some.inj wr93
            rw [KP_nil, QL_exit]
            exact ⟨_, rfl, rfl, (by simp only [List.length_set, hl]), (by simp only [W0, Nat.reduceEqDiff, Nat.reduceLT, ↓reduceIte, hl, e0, e1, e7, e9, e10, e100]), (by simp only [W0, Nat.reduceEqDiff, Nat.reduceLT, ↓reduceIte, hl, e0, e1, e7, e9, e10, e100]), (by simp only [W0, Nat.reduceEqDiff, Nat.reduceLT, ↓reduceIte, hl, e0, e1, e7, e9, e10, e100]), S88⟩
      · exact ⟨(by simp only [List.length_set, hl]), (by simp only [W0, Nat.reduceEqDiff, Nat.reduceLT, ↓reduceIte, hl, e0, e1, e7, e9, e10]), (by simp only [W0, Nat.reduceEqDiff, Nat.reduceLT, ↓reduceIte, hl, e0, e1, e7, e9, e10]), (by simp only [W0, Nat.reduceEqDiff, Nat.reduceLT, ↓reduceIte, hl, e0, e1, e7, e9, e10]), (by simp only [W0, Nat.reduceEqDiff, Nat.reduceLT, ↓reduceIte, hl, e0, e1, e7, e9, e10]), (by simp only [W0, Nat.reduceEqDiff, Nat.reduceLT, ↓reduceIte, hl, e0, e1, e7, e9, e10]), S47⟩
      · rintro x envr93 h94 ⟨rfl, hl, e7, e9, e10, S95⟩
        try simp only [↓WD, W0, evalOp, Nat.reduceEqDiff, Nat.reduceLT, ↓reduceIte, reduceCtorEq, hl, e7, e9, e10]
        rw [AW_region]
        refine AE_joinR (fun e h' => h94 = h' ∧ e.length = 106 ∧ e.getD 4 .undef = .int .i64 ((mget m_.xblocks s4).getD 0) ∧ e.getD 5 .undef = .int .i64 r45 ∧ e.getD 6 .undef = .int .i64 r93) (by
          simp only [↓WE, WA, WL, aop, ofValue, ofCell, isConst, abin, acall1, abuiltin, aun, AV.cells, AV.one, Nat.reduceAdd, Int.reduceLT, Int.reduceLE, ↓WD, W0, evalOp, Nat.reduceEqDiff, Nat.reduceLT, ↓reduceIte, reduceCtorEq, hl, e7, e9, e10]
          exact ⟨rfl, (by simp only [List.length_set, hl]), (by simp only [W0, Nat.reduceEqDiff, Nat.reduceLT, ↓reduceIte, hl, e7, e9, e10]), (by simp only [W0, Nat.reduceEqDiff, Nat.reduceLT, ↓reduceIte, hl, e7, e9, e10]), (by simp only [W0, Nat.reduceEqDiff, Nat.reduceLT, ↓reduceIte, hl, e7, e9, e10])⟩) ?_
        rintro envg96 _ ⟨rfl, hl, e4, e5, e6⟩
        try simp only [↓WD, W0, evalOp, Nat.reduceEqDiff, Nat.reduceLT, ↓reduceIte, reduceCtorEq, hl, e4, e5, e6]
        refine KP_ret (vs := [.int .i64 ((mget m_.xblocks s4).getD 0), .int .i64 r45, .int .i64 r93]) (by simp only [aresults, aresult, gs, List.length_set, Nat.reduceEqDiff, Nat.reduceLT, ↓reduceIte, hl, e4, e5, e6]) ?_
        obtain rfl := Option.some.inj hF
        exact ⟨p0m_, v0m_, i2m_, rfl, S95⟩
set_option maxRecDepth 100000 in
set_option maxHeartbeats 4000000 in
theorem W_delta_maker_give {K : PureK} (k64 : K 64 = some kf_64) (k77 : K 77 = some hb77) (n50 : K 50 = none) (n69 : K 69 = none) (n75 : K 75 = none) (m : Nat) (hm : NF + 4 ≤ m) (h : AH) (im_ : Nat) (p0m_ : AV) (v0m_ : AV) (i2m_ : Nat) (m_ : Gdelta_maker) (hokm_ : ∀ e ∈ ([.blk im_ [.str m_.xold, .str m_.xto, p0m_, v0m_, .int .i64 m_.xsaid, .map i2m_] 110, .buf im_ 2 p0m_ v0m_ 5 m_.xout, .mp i2m_ (GMap.cells AV.str (AV.int .i64) m_.xblocks) (GMap.clock m_.xblocks)] : List Ent), e.ok h) (hndm_ : (([.blk im_ [.str m_.xold, .str m_.xto, p0m_, v0m_, .int .i64 m_.xsaid, .map i2m_] 110, .buf im_ 2 p0m_ v0m_ 5 m_.xout, .mp i2m_ (GMap.cells AV.str (AV.int .i64) m_.xblocks) (GMap.clock m_.xblocks)] : List Ent).flatMap Ent.ids).Nodup) (at_ : Int) {r : Gdelta_maker} (hF : F_delta_maker_give m_ at_ = some r) :
    AR (acall Try.prog (hooksOf K) (drawnOf Try.prog (tabOf K)) m 75 [.ptr im_ 0, .int .i64 at_] h) (fun v h' => ∃ xp0m_ : AV, ∃ xv0m_ : AV, ∃ xi2m_ : Nat, v = .tup [] ∧ Sep h (([.blk im_ [.str m_.xold, .str m_.xto, p0m_, v0m_, .int .i64 m_.xsaid, .map i2m_] 110, .buf im_ 2 p0m_ v0m_ 5 m_.xout, .mp i2m_ (GMap.cells AV.str (AV.int .i64) m_.xblocks) (GMap.clock m_.xblocks)] : List Ent).flatMap Ent.ids) h' [.blk im_ [.str r.xold, .str r.xto, xp0m_, xv0m_, .int .i64 r.xsaid, .map xi2m_] 110, .buf im_ 2 xp0m_ xv0m_ 5 r.xout, .mp xi2m_ (GMap.cells AV.str (AV.int .i64) r.xblocks) (GMap.clock r.xblocks)]) := by
  obtain ⟨m, rfl⟩ : ∃ k, m = k + 1 := ⟨m - 1, by omega⟩
  refine AR_call (hooksOf_none n75) Try.func75 rfl _ _ fun env hl he => ?_
  have e0 := he 0
  have e1 := he 1
  simp only [List.getD_cons_zero, List.getD_cons_succ] at e0 e1
  simp only [Try.f75] at hl ⊢
  simp only [List.length_cons, List.length_nil, Nat.reduceAdd, Nat.reduceSub] at hl
  clear he
  have S0 : Sep h (([.blk im_ [.str m_.xold, .str m_.xto, p0m_, v0m_, .int .i64 m_.xsaid, .map i2m_] 110, .buf im_ 2 p0m_ v0m_ 5 m_.xout, .mp i2m_ (GMap.cells AV.str (AV.int .i64) m_.xblocks) (GMap.clock m_.xblocks)] : List Ent).flatMap Ent.ids) h [.blk im_ [.str m_.xold, .str m_.xto, p0m_, v0m_, .int .i64 m_.xsaid, .map i2m_] 110, .buf im_ 2 p0m_ v0m_ 5 m_.xout, .mp i2m_ (GMap.cells AV.str (AV.int .i64) m_.xblocks) (GMap.clock m_.xblocks)] := Sep.lendN hokm_ hndm_
  rw [F_delta_maker_give] at hF
  try simp only [↓WD, W0, evalOp, Nat.reduceEqDiff, Nat.reduceLT, ↓reduceIte, reduceCtorEq, hl, e0, e1]
  rw [AW_region]
  have ol1 := S0.load (P := Try.prog) 0 rfl (t := 3) (off := 4) (v := .int .i64 m_.xsaid) (by simp only [apart, ag_3, sz_3]; rfl)
  refine AE_joinR (fun e h' => h = h' ∧ e.length = 36 ∧ e.getD 0 .undef = .ptr im_ 0 ∧ e.getD 1 .undef = .int .i64 at_ ∧ e.getD 4 .undef = .int .i64 (IntKind.i64.wrap (at_ - m_.xsaid))) (by
    simp only [↓WE, WA, WL, aop, ofValue, ofCell, isConst, abin, acall1, abuiltin, aun, AV.cells, AV.one, Nat.reduceAdd, Int.reduceLT, Int.reduceLE, ↓WD, W0, evalOp, Nat.reduceEqDiff, Nat.reduceLT, ↓reduceIte, reduceCtorEq, hl, e0, e1, fa_110_3, ol1]
    exact ⟨rfl, (by simp only [List.length_set, hl]), (by simp only [W0, Nat.reduceEqDiff, Nat.reduceLT, ↓reduceIte, hl, e0, e1]), (by simp only [W0, Nat.reduceEqDiff, Nat.reduceLT, ↓reduceIte, hl, e0, e1]), (by simp only [W0, Nat.reduceEqDiff, Nat.reduceLT, ↓reduceIte, hl, e0, e1])⟩) ?_
  rintro envg2 _ ⟨rfl, hl, e0, e1, e4⟩
  try simp only [↓WD, W0, evalOp, Nat.reduceEqDiff, Nat.reduceLT, ↓reduceIte, reduceCtorEq, hl, e0, e1, e4]
  rw [AW_region]
  refine AE_joinR (fun e h' => h = h' ∧ e.length = 36 ∧ e.getD 0 .undef = .ptr im_ 0 ∧ e.getD 1 .undef = .int .i64 at_ ∧ e.getD 4 .undef = .int .i64 (IntKind.i64.wrap (at_ - m_.xsaid)) ∧ e.getD 12 .undef = .bool (decide ((IntKind.i64.wrap (at_ - m_.xsaid)) > 0))) (by
    simp only [↓WE, WA, WL, aop, ofValue, ofCell, isConst, abin, acall1, abuiltin, aun, AV.cells, AV.one, Nat.reduceAdd, Int.reduceLT, Int.reduceLE, ↓WD, W0, evalOp, Nat.reduceEqDiff, Nat.reduceLT, ↓reduceIte, reduceCtorEq, hl, e0, e1, e4]
    exact ⟨rfl, (by simp only [List.length_set, hl]), (by simp only [W0, Nat.reduceEqDiff, Nat.reduceLT, ↓reduceIte, hl, e0, e1, e4]), (by simp only [W0, Nat.reduceEqDiff, Nat.reduceLT, ↓reduceIte, hl, e0, e1, e4]), (by simp only [W0, Nat.reduceEqDiff, Nat.reduceLT, ↓reduceIte, hl, e0, e1, e4]), (by simp only [W0, Nat.reduceEqDiff, Nat.reduceLT, ↓reduceIte, hl, e0, e1, e4])⟩) ?_
  rintro envg3 _ ⟨rfl, hl, e0, e1, e4, e12⟩
  try simp only [↓WD, W0, evalOp, Nat.reduceEqDiff, Nat.reduceLT, ↓reduceIte, reduceCtorEq, hl, e0, e1, e4, e12]
  refine CondK_dec (fun c26 => ?_) (fun c26 => ?_)
  · rw [if_pos c26] at hF
    try simp only [↓WD, W0, evalOp, Nat.reduceEqDiff, Nat.reduceLT, ↓reduceIte, reduceCtorEq, hl, e0, e1, e4, e12]
    rw [AW_drawn, AE_drawnK (Ksub.cons k64 (Ksub.cons k77 Ksub.nil)) (by kernel_rfl)]
    obtain ⟨y27, qy27, hF⟩ := obind hF
    have og28 := fun (cf : CallF) (g : AH) => tab_hook (cf := cf) k64 (args := [.int .i64 (IntKind.i64.wrap ((IntKind.i64.wrap (2 * (IntKind.i64.wrap (at_ - m_.xsaid)))) + 1))]) (v := .str y27) ((kf_64_eq (IntKind.i64.wrap ((IntKind.i64.wrap (2 * (IntKind.i64.wrap (at_ - m_.xsaid)))) + 1))).trans (by rw [qy27]; rfl)) g
    have ol29 := S0.load (P := Try.prog) 0 rfl (t := 9) (off := 1) (v := .str m_.xto) (by simp only [apart, ag_9, sz_9]; rfl)
    have ol30 := S0.load (P := Try.prog) 0 rfl (t := 3) (off := 4) (v := .int .i64 m_.xsaid) (by simp only [apart, ag_3, sz_3]; rfl)
    obtain ⟨s31, qs31, hF⟩ := obind hF
    have os31 := fun g : AH => sub_str (P := Try.prog) (h := g) (k := .i64) (k' := .i64) Try.underlying9 qs31
    obtain ⟨s32, qs32, hF⟩ := obind hF
    have os32 := cat_str qs32
    have S33 : Sep h (([.blk im_ [.str m_.xold, .str m_.xto, p0m_, v0m_, .int .i64 m_.xsaid, .map i2m_] 110, .buf im_ 2 p0m_ v0m_ 5 m_.xout, .mp i2m_ (GMap.cells AV.str (AV.int .i64) m_.xblocks) (GMap.clock m_.xblocks)] : List Ent).flatMap Ent.ids) h ([.mp i2m_ (GMap.cells AV.str (AV.int .i64) m_.xblocks) (GMap.clock m_.xblocks)] ++ [.blk im_ ([.str m_.xold, .str m_.xto] ++ p0m_ :: v0m_ :: [.int .i64 m_.xsaid, .map i2m_]) 110, .buf im_ 2 p0m_ v0m_ 5 m_.xout]) := S0.pick [2, 0, 1] (by decide) rfl
    obtain ⟨b34, qb34, hF⟩ := obind hF
    obtain ⟨p35, u36, h37, ow40, S39⟩ := Sep.swrite (T := tabOf K) (pre := [.str m_.xold, .str m_.xto]) (post := [.int .i64 m_.xsaid, .map i2m_]) S33 bl_110_2 k77 n69 n50 qb34 m (by omega)
    have ow38 : acall Try.prog (hooksOf K) (drawnOf Try.prog (tabOf K)) m 50 [.ptr im_ 2, .str s32] h = some (.tup [.int .i64 (s32.length : Int), .val .nilIface], h37) := ow40
    have S41 : Sep h (([.blk im_ [.str m_.xold, .str m_.xto, p0m_, v0m_, .int .i64 m_.xsaid, .map i2m_] 110, .buf im_ 2 p0m_ v0m_ 5 m_.xout, .mp i2m_ (GMap.cells AV.str (AV.int .i64) m_.xblocks) (GMap.clock m_.xblocks)] : List Ent).flatMap Ent.ids) h37 [.mp i2m_ (GMap.cells AV.str (AV.int .i64) m_.xblocks) (GMap.clock m_.xblocks), .blk im_ [.str m_.xold, .str m_.xto, p35, u36, .int .i64 m_.xsaid, .map i2m_] 110, .buf im_ 2 p35 u36 5 b34] := S39
    refine AE_joinR (fun e h' => h37 = h' ∧ e.length = 36 ∧ e.getD 0 .undef = .ptr im_ 0 ∧ e.getD 1 .undef = .int .i64 at_) (by
      simp only [↓WE, WA, WL, aop, ofValue, ofCell, isConst, abin, acall1, abuiltin, aun, AV.cells, AV.one, Nat.reduceAdd, Int.reduceLT, Int.reduceLE, ↓WD, W0, evalOp, Nat.reduceEqDiff, Nat.reduceLT, ↓reduceIte, reduceCtorEq, hl, e0, e1, e4, e12, fa_110_2, og28, fa_110_1, ol29, fa_110_3, ol30, os31, os32, ow38, tab_none n50]
      exact ⟨rfl, (by simp only [List.length_set, hl]), (by simp only [W0, Nat.reduceEqDiff, Nat.reduceLT, ↓reduceIte, hl, e0, e1, e4, e12]), (by simp only [W0, Nat.reduceEqDiff, Nat.reduceLT, ↓reduceIte, hl, e0, e1, e4, e12])⟩) ?_
    rintro envg42 _ ⟨rfl, hl, e0, e1⟩
    try simp only [↓WD, W0, evalOp, Nat.reduceEqDiff, Nat.reduceLT, ↓reduceIte, reduceCtorEq, hl, e0, e1]
    rw [AW_region]
    obtain ⟨h43, os44, S45⟩ := S41.store (P := Try.prog) 1 rfl (t := 3) (off := 4) (v := .int .i64 at_) (c' := [.str m_.xold, .str m_.xto, p35, u36, .int .i64 at_, .map i2m_]) rfl sz_3 rfl (by simp) rfl
    have S46 : Sep h (([.blk im_ [.str m_.xold, .str m_.xto, p0m_, v0m_, .int .i64 m_.xsaid, .map i2m_] 110, .buf im_ 2 p0m_ v0m_ 5 m_.xout, .mp i2m_ (GMap.cells AV.str (AV.int .i64) m_.xblocks) (GMap.clock m_.xblocks)] : List Ent).flatMap Ent.ids) h43 [.mp i2m_ (GMap.cells AV.str (AV.int .i64) m_.xblocks) (GMap.clock m_.xblocks), .blk im_ [.str m_.xold, .str m_.xto, p35, u36, .int .i64 at_, .map i2m_] 110, .buf im_ 2 p35 u36 5 b34] := S45
    refine AE_joinR (fun e h' => h43 = h' ∧ e.length = 36) (by
      simp only [↓WE, WA, WL, aop, ofValue, ofCell, isConst, abin, acall1, abuiltin, aun, AV.cells, AV.one, Nat.reduceAdd, Int.reduceLT, Int.reduceLE, ↓WD, W0, evalOp, Nat.reduceEqDiff, Nat.reduceLT, ↓reduceIte, reduceCtorEq, hl, e0, e1, fa_110_3, os44]
      exact ⟨rfl, (by simp only [List.length_set, hl])⟩) ?_
    rintro envg47 _ ⟨rfl, hl⟩
    try simp only [↓WD, W0, evalOp, Nat.reduceEqDiff, Nat.reduceLT, ↓reduceIte, reduceCtorEq, hl]
    refine KP_end (vs := []) (by simp only [aresults, aresult, gs, List.length_set, Nat.reduceEqDiff, Nat.reduceLT, ↓reduceIte, hl]) ?_
    obtain rfl := Option.some.inj hF
    exact ⟨p35, u36, i2m_, rfl, S46.pick [1, 2, 0] (by decide) rfl⟩
  · rw [if_neg c26] at hF
    try simp only [↓WD, W0, evalOp, Nat.reduceEqDiff, Nat.reduceLT, ↓reduceIte, reduceCtorEq, hl, e0, e1, e4, e12]
    refine KP_end (vs := []) (by simp only [aresults, aresult, gs, List.length_set, Nat.reduceEqDiff, Nat.reduceLT, ↓reduceIte, hl, e0, e1, e4, e12]) ?_
    obtain rfl := Option.some.inj hF
    exact ⟨p0m_, v0m_, i2m_, rfl, S0⟩
set_option maxRecDepth 100000 in
set_option maxHeartbeats 4000000 in
theorem W_delta_maker_copied {K : PureK} (k64 : K 64 = some kf_64) (k77 : K 77 = some hb77) (n50 : K 50 = none) (n69 : K 69 = none) (n76 : K 76 = none) (m : Nat) (hm : NF + 4 ≤ m) (h : AH) (im_ : Nat) (p0m_ : AV) (v0m_ : AV) (i2m_ : Nat) (m_ : Gdelta_maker) (hokm_ : ∀ e ∈ ([.blk im_ [.str m_.xold, .str m_.xto, p0m_, v0m_, .int .i64 m_.xsaid, .map i2m_] 110, .buf im_ 2 p0m_ v0m_ 5 m_.xout, .mp i2m_ (GMap.cells AV.str (AV.int .i64) m_.xblocks) (GMap.clock m_.xblocks)] : List Ent), e.ok h) (hndm_ : (([.blk im_ [.str m_.xold, .str m_.xto, p0m_, v0m_, .int .i64 m_.xsaid, .map i2m_] 110, .buf im_ 2 p0m_ v0m_ 5 m_.xout, .mp i2m_ (GMap.cells AV.str (AV.int .i64) m_.xblocks) (GMap.clock m_.xblocks)] : List Ent).flatMap Ent.ids).Nodup) (from_ : Int) (n_ : Int) {r : Gdelta_maker} (hF : F_delta_maker_copied m_ from_ n_ = some r) :
    AR (acall Try.prog (hooksOf K) (drawnOf Try.prog (tabOf K)) m 76 [.ptr im_ 0, .int .i64 from_, .int .i64 n_] h) (fun v h' => ∃ xp0m_ : AV, ∃ xv0m_ : AV, ∃ xi2m_ : Nat, v = .tup [] ∧ Sep h (([.blk im_ [.str m_.xold, .str m_.xto, p0m_, v0m_, .int .i64 m_.xsaid, .map i2m_] 110, .buf im_ 2 p0m_ v0m_ 5 m_.xout, .mp i2m_ (GMap.cells AV.str (AV.int .i64) m_.xblocks) (GMap.clock m_.xblocks)] : List Ent).flatMap Ent.ids) h' [.blk im_ [.str r.xold, .str r.xto, xp0m_, xv0m_, .int .i64 r.xsaid, .map xi2m_] 110, .buf im_ 2 xp0m_ xv0m_ 5 r.xout, .mp xi2m_ (GMap.cells AV.str (AV.int .i64) r.xblocks) (GMap.clock r.xblocks)]) := by
  obtain ⟨m, rfl⟩ : ∃ k, m = k + 1 := ⟨m - 1, by omega⟩
  refine AR_call (hooksOf_none n76) Try.func76 rfl _ _ fun env hl he => ?_
  have e0 := he 0
  have e1 := he 1
  have e2 := he 2
  simp only [List.getD_cons_zero, List.getD_cons_succ] at e0 e1 e2
  simp only [Try.f76] at hl ⊢
  simp only [List.length_cons, List.length_nil, Nat.reduceAdd, Nat.reduceSub] at hl
  clear he
  have S0 : Sep h (([.blk im_ [.str m_.xold, .str m_.xto, p0m_, v0m_, .int .i64 m_.xsaid, .map i2m_] 110, .buf im_ 2 p0m_ v0m_ 5 m_.xout, .mp i2m_ (GMap.cells AV.str (AV.int .i64) m_.xblocks) (GMap.clock m_.xblocks)] : List Ent).flatMap Ent.ids) h [.blk im_ [.str m_.xold, .str m_.xto, p0m_, v0m_, .int .i64 m_.xsaid, .map i2m_] 110, .buf im_ 2 p0m_ v0m_ 5 m_.xout, .mp i2m_ (GMap.cells AV.str (AV.int .i64) m_.xblocks) (GMap.clock m_.xblocks)] := Sep.lendN hokm_ hndm_
  rw [F_delta_maker_copied] at hF
  try simp only [↓WD, W0, evalOp, Nat.reduceEqDiff, Nat.reduceLT, ↓reduceIte, reduceCtorEq, hl, e0, e1, e2]
  rw [AW_drawn, AE_drawnK (Ksub.cons k64 (Ksub.cons k77 Ksub.nil)) (by kernel_rfl)]
  obtain ⟨y1, qy1, hF⟩ := obind hF
  have og2 := fun (cf : CallF) (g : AH) => tab_hook (cf := cf) k64 (args := [.int .i64 (IntKind.i64.wrap (2 * n_))]) (v := .str y1) ((kf_64_eq (IntKind.i64.wrap (2 * n_))).trans (by rw [qy1]; rfl)) g
  obtain ⟨y3, qy3, hF⟩ := obind hF
  have og4 := fun (cf : CallF) (g : AH) => tab_hook (cf := cf) k64 (args := [.int .i64 from_]) (v := .str y3) ((kf_64_eq from_).trans (by rw [qy3]; rfl)) g
  obtain ⟨s5, qs5, hF⟩ := obind hF
  have os5 := cat_str qs5
  have S6 : Sep h (([.blk im_ [.str m_.xold, .str m_.xto, p0m_, v0m_, .int .i64 m_.xsaid, .map i2m_] 110, .buf im_ 2 p0m_ v0m_ 5 m_.xout, .mp i2m_ (GMap.cells AV.str (AV.int .i64) m_.xblocks) (GMap.clock m_.xblocks)] : List Ent).flatMap Ent.ids) h ([.mp i2m_ (GMap.cells AV.str (AV.int .i64) m_.xblocks) (GMap.clock m_.xblocks)] ++ [.blk im_ ([.str m_.xold, .str m_.xto] ++ p0m_ :: v0m_ :: [.int .i64 m_.xsaid, .map i2m_]) 110, .buf im_ 2 p0m_ v0m_ 5 m_.xout]) := S0.pick [2, 0, 1] (by decide) rfl
  obtain ⟨b7, qb7, hF⟩ := obind hF
  obtain ⟨p8, u9, h10, ow13, S12⟩ := Sep.swrite (T := tabOf K) (pre := [.str m_.xold, .str m_.xto]) (post := [.int .i64 m_.xsaid, .map i2m_]) S6 bl_110_2 k77 n69 n50 qb7 m (by omega)
  have ow11 : acall Try.prog (hooksOf K) (drawnOf Try.prog (tabOf K)) m 50 [.ptr im_ 2, .str s5] h = some (.tup [.int .i64 (s5.length : Int), .val .nilIface], h10) := ow13
  have S14 : Sep h (([.blk im_ [.str m_.xold, .str m_.xto, p0m_, v0m_, .int .i64 m_.xsaid, .map i2m_] 110, .buf im_ 2 p0m_ v0m_ 5 m_.xout, .mp i2m_ (GMap.cells AV.str (AV.int .i64) m_.xblocks) (GMap.clock m_.xblocks)] : List Ent).flatMap Ent.ids) h10 [.mp i2m_ (GMap.cells AV.str (AV.int .i64) m_.xblocks) (GMap.clock m_.xblocks), .blk im_ [.str m_.xold, .str m_.xto, p8, u9, .int .i64 m_.xsaid, .map i2m_] 110, .buf im_ 2 p8 u9 5 b7] := S12
  refine AE_joinR (fun e h' => h10 = h' ∧ e.length = 24 ∧ e.getD 0 .undef = .ptr im_ 0 ∧ e.getD 2 .undef = .int .i64 n_) (by
    simp only [↓WE, WA, WL, aop, ofValue, ofCell, isConst, abin, acall1, abuiltin, aun, AV.cells, AV.one, Nat.reduceAdd, Int.reduceLT, Int.reduceLE, ↓WD, W0, evalOp, Nat.reduceEqDiff, Nat.reduceLT, ↓reduceIte, reduceCtorEq, hl, e0, e1, e2, fa_110_2, og2, og4, os5, ow11, tab_none n50]
    exact ⟨rfl, (by simp only [List.length_set, hl]), (by simp only [W0, Nat.reduceEqDiff, Nat.reduceLT, ↓reduceIte, hl, e0, e1, e2]), (by simp only [W0, Nat.reduceEqDiff, Nat.reduceLT, ↓reduceIte, hl, e0, e1, e2])⟩) ?_
  rintro envg15 _ ⟨rfl, hl, e0, e2⟩
  try simp only [↓WD, W0, evalOp, Nat.reduceEqDiff, Nat.reduceLT, ↓reduceIte, reduceCtorEq, hl, e0, e2]
  rw [AW_region]
  have ol16 := S14.load (P := Try.prog) 1 rfl (t := 3) (off := 4) (v := .int .i64 m_.xsaid) (by simp only [apart, ag_3, sz_3]; rfl)
  obtain ⟨h17, os18, S19⟩ := S14.store (P := Try.prog) 1 rfl (t := 3) (off := 4) (v := .int .i64 (IntKind.i64.wrap (m_.xsaid + n_))) (c' := [.str m_.xold, .str m_.xto, p8, u9, .int .i64 (IntKind.i64.wrap (m_.xsaid + n_)), .map i2m_]) rfl sz_3 rfl (by simp) rfl
  have S20 : Sep h (([.blk im_ [.str m_.xold, .str m_.xto, p0m_, v0m_, .int .i64 m_.xsaid, .map i2m_] 110, .buf im_ 2 p0m_ v0m_ 5 m_.xout, .mp i2m_ (GMap.cells AV.str (AV.int .i64) m_.xblocks) (GMap.clock m_.xblocks)] : List Ent).flatMap Ent.ids) h17 [.mp i2m_ (GMap.cells AV.str (AV.int .i64) m_.xblocks) (GMap.clock m_.xblocks), .blk im_ [.str m_.xold, .str m_.xto, p8, u9, .int .i64 (IntKind.i64.wrap (m_.xsaid + n_)), .map i2m_] 110, .buf im_ 2 p8 u9 5 b7] := S19
  refine AE_joinR (fun e h' => h17 = h' ∧ e.length = 24) (by
    simp only [↓WE, WA, WL, aop, ofValue, ofCell, isConst, abin, acall1, abuiltin, aun, AV.cells, AV.one, Nat.reduceAdd, Int.reduceLT, Int.reduceLE, ↓WD, W0, evalOp, Nat.reduceEqDiff, Nat.reduceLT, ↓reduceIte, reduceCtorEq, hl, e0, e2, fa_110_3, ol16, os18]
    exact ⟨rfl, (by simp only [List.length_set, hl])⟩) ?_
  rintro envg21 _ ⟨rfl, hl⟩
  try simp only [↓WD, W0, evalOp, Nat.reduceEqDiff, Nat.reduceLT, ↓reduceIte, reduceCtorEq, hl]
  refine KP_end (vs := []) (by simp only [aresults, aresult, gs, List.length_set, Nat.reduceEqDiff, Nat.reduceLT, ↓reduceIte, hl]) ?_
  obtain rfl := Option.some.inj hF
  exact ⟨p8, u9, i2m_, rfl, S20.pick [1, 2, 0] (by decide) rfl⟩
set_option maxRecDepth 100000 in
set_option maxHeartbeats 4000000 in
theorem W_delta_maker_steps {K : PureK} (k64 : K 64 = some kf_64) (k77 : K 77 = some hb77) (n50 : K 50 = none) (n69 : K 69 = none) (n74 : K 74 = none) (n75 : K 75 = none) (n76 : K 76 = none) (n66 : K 66 = none) (m : Nat) (hm : NF + 5 ≤ m) (h : AH) (im_ : Nat) (p0m_ : AV) (v0m_ : AV) (i2m_ : Nat) (m_ : Gdelta_maker) (hokm_ : ∀ e ∈ ([.blk im_ [.str m_.xold, .str m_.xto, p0m_, v0m_, .int .i64 m_.xsaid, .map i2m_] 110, .buf im_ 2 p0m_ v0m_ 5 m_.xout, .mp i2m_ (GMap.cells AV.str (AV.int .i64) m_.xblocks) (GMap.clock m_.xblocks)] : List Ent), e.ok h) (hndm_ : (([.blk im_ [.str m_.xold, .str m_.xto, p0m_, v0m_, .int .i64 m_.xsaid, .map i2m_] 110, .buf im_ 2 p0m_ v0m_ 5 m_.xout, .mp i2m_ (GMap.cells AV.str (AV.int .i64) m_.xblocks) (GMap.clock m_.xblocks)] : List Ent).flatMap Ent.ids).Nodup) {r : Gdelta_maker} (hF : F_delta_maker_steps m_ = some r) :
    AR (acall Try.prog (hooksOf K) (drawnOf Try.prog (tabOf K)) m 66 [.ptr im_ 0] h) (fun v h' => ∃ xp0m_ : AV, ∃ xv0m_ : AV, ∃ xi2m_ : Nat, v = .tup [] ∧ Sep h (([.blk im_ [.str m_.xold, .str m_.xto, p0m_, v0m_, .int .i64 m_.xsaid, .map i2m_] 110, .buf im_ 2 p0m_ v0m_ 5 m_.xout, .mp i2m_ (GMap.cells AV.str (AV.int .i64) m_.xblocks) (GMap.clock m_.xblocks)] : List Ent).flatMap Ent.ids) h' [.blk im_ [.str r.xold, .str r.xto, xp0m_, xv0m_, .int .i64 r.xsaid, .map xi2m_] 110, .buf im_ 2 xp0m_ xv0m_ 5 r.xout, .mp xi2m_ (GMap.cells AV.str (AV.int .i64) r.xblocks) (GMap.clock r.xblocks)]) := by
  obtain ⟨m, rfl⟩ : ∃ k, m = k + 1 := ⟨m - 1, by omega⟩
  refine AR_call (hooksOf_none n66) Try.func66 rfl _ _ fun env hl he => ?_
  have e0 := he 0
  simp only [List.getD_cons_zero, List.getD_cons_succ] at e0
  simp only [Try.f66] at hl ⊢
  simp only [List.length_cons, List.length_nil, Nat.reduceAdd, Nat.reduceSub] at hl
  clear he
  have S0 : Sep h (([.blk im_ [.str m_.xold, .str m_.xto, p0m_, v0m_, .int .i64 m_.xsaid, .map i2m_] 110, .buf im_ 2 p0m_ v0m_ 5 m_.xout, .mp i2m_ (GMap.cells AV.str (AV.int .i64) m_.xblocks) (GMap.clock m_.xblocks)] : List Ent).flatMap Ent.ids) h [.blk im_ [.str m_.xold, .str m_.xto, p0m_, v0m_, .int .i64 m_.xsaid, .map i2m_] 110, .buf im_ 2 p0m_ v0m_ 5 m_.xout, .mp i2m_ (GMap.cells AV.str (AV.int .i64) m_.xblocks) (GMap.clock m_.xblocks)] := Sep.lendN hokm_ hndm_
  rw [F_delta_maker_steps] at hF
  try simp only [↓WD, W0, evalOp, Nat.reduceEqDiff, Nat.reduceLT, ↓reduceIte, reduceCtorEq, hl, e0]
  rw [AW_region]
  refine AE_joinR (fun e h' => h = h' ∧ e.length = 51 ∧ e.getD 0 .undef = .ptr im_ 0 ∧ e.getD 2 .undef = .int .i64 0) (by
    simp only [↓WE, WA, WL, aop, ofValue, ofCell, isConst, abin, acall1, abuiltin, aun, AV.cells, AV.one, Nat.reduceAdd, Int.reduceLT, Int.reduceLE, ↓WD, W0, evalOp, Nat.reduceEqDiff, Nat.reduceLT, ↓reduceIte, reduceCtorEq, hl, e0]
    exact ⟨rfl, (by simp only [List.length_set, hl]), (by simp only [W0, Nat.reduceEqDiff, Nat.reduceLT, ↓reduceIte, hl, e0]), (by simp only [W0, Nat.reduceEqDiff, Nat.reduceLT, ↓reduceIte, hl, e0])⟩) ?_
  rintro envg1 _ ⟨rfl, hl, e0, e2⟩
  try simp only [↓WD, W0, evalOp, Nat.reduceEqDiff, Nat.reduceLT, ↓reduceIte, reduceCtorEq, hl, e0, e2]
  obtain ⟨r93, qr93, hF⟩ := obind hF
  refine AW_lift (L_delta_maker_steps_1) (fun s e h' => ∃ (p46 : AV), ∃ (u47 : AV), ∃ (i48 : Nat), e.length = 51 ∧ e.getD 0 .undef = .ptr im_ 0 ∧ e.getD 2 .undef = .int .i64 s.2.2.2.2.2 ∧ Sep h (([.blk im_ [.str m_.xold, .str m_.xto, p0m_, v0m_, .int .i64 m_.xsaid, .map i2m_] 110, .buf im_ 2 p0m_ v0m_ 5 m_.xout, .mp i2m_ (GMap.cells AV.str (AV.int .i64) m_.xblocks) (GMap.clock m_.xblocks)] : List Ent).flatMap Ent.ids) h' [.blk im_ [.str s.1, .str s.2.1, p46, u47, .int .i64 s.2.2.2.1, .map i48] 110, .buf im_ 2 p46 u47 5 s.2.2.1, .mp i48 (GMap.cells AV.str (AV.int .i64) s.2.2.2.2.1) (GMap.clock s.2.2.2.2.1)]) (fun r93 x e h' => ∃ (p94 : AV), ∃ (u95 : AV), ∃ (i96 : Nat), x = .exit 0 ∧ e.length = 51 ∧ e.getD 0 .undef = .ptr im_ 0 ∧ Sep h (([.blk im_ [.str m_.xold, .str m_.xto, p0m_, v0m_, .int .i64 m_.xsaid, .map i2m_] 110, .buf im_ 2 p0m_ v0m_ 5 m_.xout, .mp i2m_ (GMap.cells AV.str (AV.int .i64) m_.xblocks) (GMap.clock m_.xblocks)] : List Ent).flatMap Ent.ids) h' [.blk im_ [.str r93.1, .str r93.2.1, p94, u95, .int .i64 r93.2.2.2.1, .map i96] 110, .buf im_ 2 p94 u95 5 r93.2.2.1, .mp i96 (GMap.cells AV.str (AV.int .i64) r93.2.2.2.2) (GMap.clock r93.2.2.2.2)]) qr93 (by omega) ?_ ?_ ?_
  · rintro s envr93 h49 or93 ⟨p46, u47, i48, hl, e0, e2, S50⟩ wr93
    rw [L_delta_maker_steps_1] at wr93
    try simp only [↓WD, W0, evalOp, Nat.reduceEqDiff, Nat.reduceLT, ↓reduceIte, reduceCtorEq, hl, e0, e2]
    rw [AW_region]
    have ol51 := S50.load (P := Try.prog) 0 rfl (t := 9) (off := 1) (v := .str s.2.1) (by simp only [apart, ag_9, sz_9]; rfl)
    have ol52 := fun g : AH => alen_str (P := Try.prog) (h := g) (l := s.2.1) Try.underlying9
    refine AE_joinR (fun e h' => h49 = h' ∧ e.length = 51 ∧ e.getD 0 .undef = .ptr im_ 0 ∧ e.getD 2 .undef = .int .i64 s.2.2.2.2.2 ∧ e.getD 13 .undef = .bool (decide ((IntKind.i64.wrap (s.2.2.2.2.2 + 16)) ≤ (s.2.1.length : Int)))) (by
      simp only [↓WE, WA, WL, aop, ofValue, ofCell, isConst, abin, acall1, abuiltin, aun, AV.cells, AV.one, Nat.reduceAdd, Int.reduceLT, Int.reduceLE, ↓WD, W0, evalOp, Nat.reduceEqDiff, Nat.reduceLT, ↓reduceIte, reduceCtorEq, hl, e0, e2, fa_110_1, ol51, ol52]
      exact ⟨rfl, (by simp only [List.length_set, hl]), (by simp only [W0, Nat.reduceEqDiff, Nat.reduceLT, ↓reduceIte, hl, e0, e2]), (by simp only [W0, Nat.reduceEqDiff, Nat.reduceLT, ↓reduceIte, hl, e0, e2]), (by simp only [W0, Nat.reduceEqDiff, Nat.reduceLT, ↓reduceIte, hl, e0, e2])⟩) ?_
    rintro envg53 _ ⟨rfl, hl, e0, e2, e13⟩
    try simp only [↓WD, W0, evalOp, Nat.reduceEqDiff, Nat.reduceLT, ↓reduceIte, reduceCtorEq, hl, e0, e2, e13]
    refine CondK_dec (fun c55 => ?_) (fun c55 => ?_)
    · rw [if_pos c55] at wr93
      try simp only [↓WD, W0, evalOp, Nat.reduceEqDiff, Nat.reduceLT, ↓reduceIte, reduceCtorEq, hl, e0, e2, e13]
      rw [AW_region]
      obtain ⟨y56, qy56, wr93⟩ := obind wr93
      have S58 : Sep h (([.blk im_ [.str m_.xold, .str m_.xto, p0m_, v0m_, .int .i64 m_.xsaid, .map i2m_] 110, .buf im_ 2 p0m_ v0m_ 5 m_.xout, .mp i2m_ (GMap.cells AV.str (AV.int .i64) m_.xblocks) (GMap.clock m_.xblocks)] : List Ent).flatMap Ent.ids) h49 ([] ++ [.blk im_ [.str s.1, .str s.2.1, p46, u47, .int .i64 s.2.2.2.1, .map i48] 110, .buf im_ 2 p46 u47 5 s.2.2.1, .mp i48 (GMap.cells AV.str (AV.int .i64) s.2.2.2.2.1) (GMap.clock s.2.2.2.2.1)]) := S50.pick [0, 1, 2] (by decide) rfl
      obtain ⟨v62, h59, og57, zp0q61, zv0q61, zi2q61, rfl, S60⟩ := (W_delta_maker_found n74 m (by omega) h49 im_ p46 u47 i48 (⟨s.1, s.2.1, s.2.2.1, s.2.2.2.1, s.2.2.2.2.1⟩ : Gdelta_maker) S58.okA S58.ndA s.2.2.2.2.2 qy56).out
      have S63 : Sep h (([.blk im_ [.str m_.xold, .str m_.xto, p0m_, v0m_, .int .i64 m_.xsaid, .map i2m_] 110, .buf im_ 2 p0m_ v0m_ 5 m_.xout, .mp i2m_ (GMap.cells AV.str (AV.int .i64) m_.xblocks) (GMap.clock m_.xblocks)] : List Ent).flatMap Ent.ids) h59 [.blk im_ [.str y56.1.xold, .str y56.1.xto, zp0q61, zv0q61, .int .i64 y56.1.xsaid, .map zi2q61] 110, .buf im_ 2 zp0q61 zv0q61 5 y56.1.xout, .mp zi2q61 (GMap.cells AV.str (AV.int .i64) y56.1.xblocks) (GMap.clock y56.1.xblocks)] := S58.callN S60
      refine AE_joinR (fun e h' => h59 = h' ∧ e.length = 51 ∧ e.getD 0 .undef = .ptr im_ 0 ∧ e.getD 2 .undef = .int .i64 s.2.2.2.2.2 ∧ e.getD 3 .undef = .int .i64 y56.2.1 ∧ e.getD 4 .undef = .int .i64 y56.2.2.1 ∧ e.getD 5 .undef = .int .i64 y56.2.2.2) (by
        simp only [↓WE, WA, WL, aop, ofValue, ofCell, isConst, abin, acall1, abuiltin, aun, AV.cells, AV.one, Nat.reduceAdd, Int.reduceLT, Int.reduceLE, ↓WD, W0, evalOp, Nat.reduceEqDiff, Nat.reduceLT, ↓reduceIte, reduceCtorEq, hl, e0, e2, e13, og57]
        exact ⟨rfl, (by simp only [List.length_set, hl]), (by simp only [W0, Nat.reduceEqDiff, Nat.reduceLT, ↓reduceIte, hl, e0, e2, e13]), (by simp only [W0, Nat.reduceEqDiff, Nat.reduceLT, ↓reduceIte, hl, e0, e2, e13]), (by simp only [W0, Nat.reduceEqDiff, Nat.reduceLT, ↓reduceIte, hl, e0, e2, e13]), (by simp only [W0, Nat.reduceEqDiff, Nat.reduceLT, ↓reduceIte, hl, e0, e2, e13]), (by simp only [W0, Nat.reduceEqDiff, Nat.reduceLT, ↓reduceIte, hl, e0, e2, e13])⟩) ?_
      rintro envg64 _ ⟨rfl, hl, e0, e2, e3, e4, e5⟩
      try simp only [↓WD, W0, evalOp, Nat.reduceEqDiff, Nat.reduceLT, ↓reduceIte, reduceCtorEq, hl, e0, e2, e3, e4, e5]
      rw [AW_region]
      refine AE_joinR (fun e h' => h59 = h' ∧ e.length = 51 ∧ e.getD 0 .undef = .ptr im_ 0 ∧ e.getD 2 .undef = .int .i64 s.2.2.2.2.2 ∧ e.getD 3 .undef = .int .i64 y56.2.1 ∧ e.getD 4 .undef = .int .i64 y56.2.2.1 ∧ e.getD 5 .undef = .int .i64 y56.2.2.2 ∧ e.getD 24 .undef = .bool (decide ((IntKind.i64.wrap (y56.2.2.1 + y56.2.2.2)) < 24))) (by
        simp only [↓WE, WA, WL, aop, ofValue, ofCell, isConst, abin, acall1, abuiltin, aun, AV.cells, AV.one, Nat.reduceAdd, Int.reduceLT, Int.reduceLE, ↓WD, W0, evalOp, Nat.reduceEqDiff, Nat.reduceLT, ↓reduceIte, reduceCtorEq, hl, e0, e2, e3, e4, e5]
        exact ⟨rfl, (by simp only [List.length_set, hl]), (by simp only [W0, Nat.reduceEqDiff, Nat.reduceLT, ↓reduceIte, hl, e0, e2, e3, e4, e5]), (by simp only [W0, Nat.reduceEqDiff, Nat.reduceLT, ↓reduceIte, hl, e0, e2, e3, e4, e5]), (by simp only [W0, Nat.reduceEqDiff, Nat.reduceLT, ↓reduceIte, hl, e0, e2, e3, e4, e5]), (by simp only [W0, Nat.reduceEqDiff, Nat.reduceLT, ↓reduceIte, hl, e0, e2, e3, e4, e5]), (by simp only [W0, Nat.reduceEqDiff, Nat.reduceLT, ↓reduceIte, hl, e0, e2, e3, e4, e5]), (by simp only [W0, Nat.reduceEqDiff, Nat.reduceLT, ↓reduceIte, hl, e0, e2, e3, e4, e5])⟩) ?_
      rintro envg65 _ ⟨rfl, hl, e0, e2, e3, e4, e5, e24⟩
      try simp only [↓WD, W0, evalOp, Nat.reduceEqDiff, Nat.reduceLT, ↓reduceIte, reduceCtorEq, hl, e0, e2, e3, e4, e5, e24]
      refine CondK_dec (fun c68 => ?_) (fun c68 => ?_)
      · rw [if_pos c68] at wr93
        try simp only [↓WD, W0, evalOp, Nat.reduceEqDiff, Nat.reduceLT, ↓reduceIte, reduceCtorEq, hl, e0, e2, e3, e4, e5, e24]
        rw [AW_region]
        refine AE_joinR (fun e h' => h59 = h' ∧ e.length = 51 ∧ e.getD 0 .undef = .ptr im_ 0 ∧ e.getD 2 .undef = .int .i64 (IntKind.i64.wrap (s.2.2.2.2.2 + 1))) (by
          simp only [↓WE, WA, WL, aop, ofValue, ofCell, isConst, abin, acall1, abuiltin, aun, AV.cells, AV.one, Nat.reduceAdd, Int.reduceLT, Int.reduceLE, ↓WD, W0, evalOp, Nat.reduceEqDiff, Nat.reduceLT, ↓reduceIte, reduceCtorEq, hl, e0, e2, e3, e4, e5, e24]
          exact ⟨rfl, (by simp only [List.length_set, hl]), (by simp only [W0, Nat.reduceEqDiff, Nat.reduceLT, ↓reduceIte, hl, e0, e2, e3, e4, e5, e24]), (by simp only [W0, Nat.reduceEqDiff, Nat.reduceLT, ↓reduceIte, hl, e0, e2, e3, e4, e5, e24])⟩) ?_
        rintro envg69 _ ⟨rfl, hl, e0, e2⟩
        try simp only [↓WD, W0, evalOp, Nat.reduceEqDiff, Nat.reduceLT, ↓reduceIte, reduceCtorEq, hl, e0, e2]
        obtain rfl := Option.some.inj wr93
        rw [KP_nil, QL_normal]
        exact ⟨_, rfl, zp0q61, zv0q61, zi2q61, (by simp only [List.length_set, hl]), (by simp only [W0, Nat.reduceEqDiff, Nat.reduceLT, ↓reduceIte, hl, e0, e2]), (by simp only [W0, Nat.reduceEqDiff, Nat.reduceLT, ↓reduceIte, hl, e0, e2]), S63⟩
      · rw [if_neg c68] at wr93
        try simp only [↓WD, W0, evalOp, Nat.reduceEqDiff, Nat.reduceLT, ↓reduceIte, reduceCtorEq, hl, e0, e2, e3, e4, e5, e24]
        rw [AW_region]
        obtain ⟨y70, qy70, wr93⟩ := obind wr93
        have S72 : Sep h (([.blk im_ [.str m_.xold, .str m_.xto, p0m_, v0m_, .int .i64 m_.xsaid, .map i2m_] 110, .buf im_ 2 p0m_ v0m_ 5 m_.xout, .mp i2m_ (GMap.cells AV.str (AV.int .i64) m_.xblocks) (GMap.clock m_.xblocks)] : List Ent).flatMap Ent.ids) h59 ([] ++ [.blk im_ [.str y56.1.xold, .str y56.1.xto, zp0q61, zv0q61, .int .i64 y56.1.xsaid, .map zi2q61] 110, .buf im_ 2 zp0q61 zv0q61 5 y56.1.xout, .mp zi2q61 (GMap.cells AV.str (AV.int .i64) y56.1.xblocks) (GMap.clock y56.1.xblocks)]) := S63.pick [0, 1, 2] (by decide) rfl
        obtain ⟨v76, h73, og71, zp0q75, zv0q75, zi2q75, rfl, S74⟩ := (W_delta_maker_give k64 k77 n50 n69 n75 m (by omega) h59 im_ zp0q61 zv0q61 zi2q61 y56.1 S72.okA S72.ndA (IntKind.i64.wrap (s.2.2.2.2.2 - y56.2.2.1)) qy70).out
        have S77 : Sep h (([.blk im_ [.str m_.xold, .str m_.xto, p0m_, v0m_, .int .i64 m_.xsaid, .map i2m_] 110, .buf im_ 2 p0m_ v0m_ 5 m_.xout, .mp i2m_ (GMap.cells AV.str (AV.int .i64) m_.xblocks) (GMap.clock m_.xblocks)] : List Ent).flatMap Ent.ids) h73 [.blk im_ [.str y70.xold, .str y70.xto, zp0q75, zv0q75, .int .i64 y70.xsaid, .map zi2q75] 110, .buf im_ 2 zp0q75 zv0q75 5 y70.xout, .mp zi2q75 (GMap.cells AV.str (AV.int .i64) y70.xblocks) (GMap.clock y70.xblocks)] := S72.callN S74
        refine AE_joinR (fun e h' => h73 = h' ∧ e.length = 51 ∧ e.getD 0 .undef = .ptr im_ 0 ∧ e.getD 3 .undef = .int .i64 y56.2.1 ∧ e.getD 4 .undef = .int .i64 y56.2.2.1 ∧ e.getD 5 .undef = .int .i64 y56.2.2.2) (by
          simp only [↓WE, WA, WL, aop, ofValue, ofCell, isConst, abin, acall1, abuiltin, aun, AV.cells, AV.one, Nat.reduceAdd, Int.reduceLT, Int.reduceLE, ↓WD, W0, evalOp, Nat.reduceEqDiff, Nat.reduceLT, ↓reduceIte, reduceCtorEq, hl, e0, e2, e3, e4, e5, e24, og71]
          exact ⟨rfl, (by simp only [List.length_set, hl]), (by simp only [W0, Nat.reduceEqDiff, Nat.reduceLT, ↓reduceIte, hl, e0, e2, e3, e4, e5, e24]), (by simp only [W0, Nat.reduceEqDiff, Nat.reduceLT, ↓reduceIte, hl, e0, e2, e3, e4, e5, e24]), (by simp only [W0, Nat.reduceEqDiff, Nat.reduceLT, ↓reduceIte, hl, e0, e2, e3, e4, e5, e24]), (by simp only [W0, Nat.reduceEqDiff, Nat.reduceLT, ↓reduceIte, hl, e0, e2, e3, e4, e5, e24])⟩) ?_
        rintro envg78 _ ⟨rfl, hl, e0, e3, e4, e5⟩
        try simp only [↓WD, W0, evalOp, Nat.reduceEqDiff, Nat.reduceLT, ↓reduceIte, reduceCtorEq, hl, e0, e3, e4, e5]
        rw [AW_region]
        obtain ⟨y79, qy79, wr93⟩ := obind wr93
        have S81 : Sep h (([.blk im_ [.str m_.xold, .str m_.xto, p0m_, v0m_, .int .i64 m_.xsaid, .map i2m_] 110, .buf im_ 2 p0m_ v0m_ 5 m_.xout, .mp i2m_ (GMap.cells AV.str (AV.int .i64) m_.xblocks) (GMap.clock m_.xblocks)] : List Ent).flatMap Ent.ids) h73 ([] ++ [.blk im_ [.str y70.xold, .str y70.xto, zp0q75, zv0q75, .int .i64 y70.xsaid, .map zi2q75] 110, .buf im_ 2 zp0q75 zv0q75 5 y70.xout, .mp zi2q75 (GMap.cells AV.str (AV.int .i64) y70.xblocks) (GMap.clock y70.xblocks)]) := S77.pick [0, 1, 2] (by decide) rfl
        obtain ⟨v85, h82, og80, zp0q84, zv0q84, zi2q84, rfl, S83⟩ := (W_delta_maker_copied k64 k77 n50 n69 n76 m (by omega) h73 im_ zp0q75 zv0q75 zi2q75 y70 S81.okA S81.ndA (IntKind.i64.wrap (y56.2.1 - y56.2.2.1)) (IntKind.i64.wrap (y56.2.2.1 + y56.2.2.2)) qy79).out
        have S86 : Sep h (([.blk im_ [.str m_.xold, .str m_.xto, p0m_, v0m_, .int .i64 m_.xsaid, .map i2m_] 110, .buf im_ 2 p0m_ v0m_ 5 m_.xout, .mp i2m_ (GMap.cells AV.str (AV.int .i64) m_.xblocks) (GMap.clock m_.xblocks)] : List Ent).flatMap Ent.ids) h82 [.blk im_ [.str y79.xold, .str y79.xto, zp0q84, zv0q84, .int .i64 y79.xsaid, .map zi2q84] 110, .buf im_ 2 zp0q84 zv0q84 5 y79.xout, .mp zi2q84 (GMap.cells AV.str (AV.int .i64) y79.xblocks) (GMap.clock y79.xblocks)] := S81.callN S83
        refine AE_joinR (fun e h' => h82 = h' ∧ e.length = 51 ∧ e.getD 0 .undef = .ptr im_ 0) (by
          simp only [↓WE, WA, WL, aop, ofValue, ofCell, isConst, abin, acall1, abuiltin, aun, AV.cells, AV.one, Nat.reduceAdd, Int.reduceLT, Int.reduceLE, ↓WD, W0, evalOp, Nat.reduceEqDiff, Nat.reduceLT, ↓reduceIte, reduceCtorEq, hl, e0, e3, e4, e5, og80]
          exact ⟨rfl, (by simp only [List.length_set, hl]), (by simp only [W0, Nat.reduceEqDiff, Nat.reduceLT, ↓reduceIte, hl, e0, e3, e4, e5])⟩) ?_
        rintro envg87 _ ⟨rfl, hl, e0⟩
        try simp only [↓WD, W0, evalOp, Nat.reduceEqDiff, Nat.reduceLT, ↓reduceIte, reduceCtorEq, hl, e0]
        rw [AW_region]
        have ol88 := S86.load (P := Try.prog) 0 rfl (t := 3) (off := 4) (v := .int .i64 y79.xsaid) (by simp only [apart, ag_3, sz_3]; rfl)
        refine AE_joinR (fun e h' => h82 = h' ∧ e.length = 51 ∧ e.getD 0 .undef = .ptr im_ 0 ∧ e.getD 2 .undef = .int .i64 y79.xsaid) (by
          simp only [↓WE, WA, WL, aop, ofValue, ofCell, isConst, abin, acall1, abuiltin, aun, AV.cells, AV.one, Nat.reduceAdd, Int.reduceLT, Int.reduceLE, ↓WD, W0, evalOp, Nat.reduceEqDiff, Nat.reduceLT, ↓reduceIte, reduceCtorEq, hl, e0, fa_110_3, ol88]
          exact ⟨rfl, (by simp only [List.length_set, hl]), (by simp only [W0, Nat.reduceEqDiff, Nat.reduceLT, ↓reduceIte, hl, e0]), (by simp only [W0, Nat.reduceEqDiff, Nat.reduceLT, ↓reduceIte, hl, e0])⟩) ?_
        rintro envg89 _ ⟨rfl, hl, e0, e2⟩
        try simp only [↓WD, W0, evalOp, Nat.reduceEqDiff, Nat.reduceLT, ↓reduceIte, reduceCtorEq, hl, e0, e2]
        obtain rfl := Option.some.inj wr93
        rw [KP_nil, QL_normal]
        exact ⟨_, rfl, zp0q84, zv0q84, zi2q84, (by simp only [List.length_set, hl]), (by simp only [W0, Nat.reduceEqDiff, Nat.reduceLT, ↓reduceIte, hl, e0, e2]), (by simp only [W0, Nat.reduceEqDiff, Nat.reduceLT, ↓reduceIte, hl, e0, e2]), S86⟩
    · rw [if_neg c55] at wr93
      try simp only [↓WD, W0, evalOp, Nat.reduceEqDiff, Nat.reduceLT, ↓reduceIte, reduceCtorEq, hl, e0, e2, e13]
      obtain rfl := Option.some.inj wr93
      rw [KP_nil, QL_exit]
      exact ⟨_, rfl, p46, u47, i48, rfl, (by simp only [List.length_set, hl]), (by simp only [W0, Nat.reduceEqDiff, Nat.reduceLT, ↓reduceIte, hl, e0, e2, e13]), S50⟩
  · exact ⟨p0m_, v0m_, i2m_, (by simp only [List.length_set, hl]), (by simp only [W0, Nat.reduceEqDiff, Nat.reduceLT, ↓reduceIte, hl, e0, e2]), (by simp only [W0, Nat.reduceEqDiff, Nat.reduceLT, ↓reduceIte, hl, e0, e2]), S0⟩
  · rintro x envr93 h97 ⟨p94, u95, i96, rfl, hl, e0, S98⟩
    try simp only [↓WD, W0, evalOp, Nat.reduceEqDiff, Nat.reduceLT, ↓reduceIte, reduceCtorEq, hl, e0]
    rw [AW_region]
    have ol99 := S98.load (P := Try.prog) 0 rfl (t := 9) (off := 1) (v := .str r93.2.1) (by simp only [apart, ag_9, sz_9]; rfl)
    have ol100 := fun g : AH => alen_str (P := Try.prog) (h := g) (l := r93.2.1) Try.underlying9
    obtain ⟨y101, qy101, hF⟩ := obind hF
    have S103 : Sep h (([.blk im_ [.str m_.xold, .str m_.xto, p0m_, v0m_, .int .i64 m_.xsaid, .map i2m_] 110, .buf im_ 2 p0m_ v0m_ 5 m_.xout, .mp i2m_ (GMap.cells AV.str (AV.int .i64) m_.xblocks) (GMap.clock m_.xblocks)] : List Ent).flatMap Ent.ids) h97 ([] ++ [.blk im_ [.str r93.1, .str r93.2.1, p94, u95, .int .i64 r93.2.2.2.1, .map i96] 110, .buf im_ 2 p94 u95 5 r93.2.2.1, .mp i96 (GMap.cells AV.str (AV.int .i64) r93.2.2.2.2) (GMap.clock r93.2.2.2.2)]) := S98.pick [0, 1, 2] (by decide) rfl
    obtain ⟨v107, h104, og102, zp0q106, zv0q106, zi2q106, rfl, S105⟩ := (W_delta_maker_give k64 k77 n50 n69 n75 m (by omega) h97 im_ p94 u95 i96 (⟨r93.1, r93.2.1, r93.2.2.1, r93.2.2.2.1, r93.2.2.2.2⟩ : Gdelta_maker) S103.okA S103.ndA (r93.2.1.length : Int) qy101).out
    have S108 : Sep h (([.blk im_ [.str m_.xold, .str m_.xto, p0m_, v0m_, .int .i64 m_.xsaid, .map i2m_] 110, .buf im_ 2 p0m_ v0m_ 5 m_.xout, .mp i2m_ (GMap.cells AV.str (AV.int .i64) m_.xblocks) (GMap.clock m_.xblocks)] : List Ent).flatMap Ent.ids) h104 [.blk im_ [.str y101.xold, .str y101.xto, zp0q106, zv0q106, .int .i64 y101.xsaid, .map zi2q106] 110, .buf im_ 2 zp0q106 zv0q106 5 y101.xout, .mp zi2q106 (GMap.cells AV.str (AV.int .i64) y101.xblocks) (GMap.clock y101.xblocks)] := S103.callN S105
    refine AE_joinR (fun e h' => h104 = h' ∧ e.length = 51) (by
      simp only [↓WE, WA, WL, aop, ofValue, ofCell, isConst, abin, acall1, abuiltin, aun, AV.cells, AV.one, Nat.reduceAdd, Int.reduceLT, Int.reduceLE, ↓WD, W0, evalOp, Nat.reduceEqDiff, Nat.reduceLT, ↓reduceIte, reduceCtorEq, hl, e0, fa_110_1, ol99, ol100, og102]
      exact ⟨rfl, (by simp only [List.length_set, hl])⟩) ?_
    rintro envg109 _ ⟨rfl, hl⟩
    try simp only [↓WD, W0, evalOp, Nat.reduceEqDiff, Nat.reduceLT, ↓reduceIte, reduceCtorEq, hl]
    refine KP_end (vs := []) (by simp only [aresults, aresult, gs, List.length_set, Nat.reduceEqDiff, Nat.reduceLT, ↓reduceIte, hl]) ?_
    obtain rfl := Option.some.inj hF
    exact ⟨zp0q106, zv0q106, zi2q106, rfl, S108⟩
set_option maxRecDepth 100000 in
set_option maxHeartbeats 4000000 in
theorem W_delta_Make {K : PureK} (k64 : K 64 = some kf_64) (k77 : K 77 = some hb77) (n50 : K 50 = none) (n51 : K 51 = none) (n52 : K 52 = none) (n65 : K 65 = none) (n66 : K 66 = none) (n69 : K 69 = none) (n74 : K 74 = none) (n75 : K 75 = none) (n76 : K 76 = none) (n42 : K 42 = none) (m : Nat) (hm : NF + 6 ≤ m) (h : AH) (old_ : List UInt8) (to_ : List UInt8) {r : (List UInt8) × Int} (hF : F_delta_Make old_ to_ = some r) :
    AR (acall Try.prog (hooksOf K) (drawnOf Try.prog (tabOf K)) m 42 [.str old_, .str to_] h) (fun v h' => v = .tup [.str r.1, .int .i64 r.2]) := by
  obtain ⟨m, rfl⟩ : ∃ k, m = k + 1 := ⟨m - 1, by omega⟩
  refine AR_call (hooksOf_none n42) Try.func42 rfl _ _ fun env hl he => ?_
  have e0 := he 0
  have e1 := he 1
  simp only [List.getD_cons_zero, List.getD_cons_succ] at e0 e1
  simp only [Try.f42] at hl ⊢
  simp only [List.length_cons, List.length_nil, Nat.reduceAdd, Nat.reduceSub] at hl
  clear he
  have S0 : Sep h [] h [] := Sep.nil h
  rw [F_delta_Make] at hF
  try simp only [↓WD, W0, evalOp, Nat.reduceEqDiff, Nat.reduceLT, ↓reduceIte, reduceCtorEq, hl, e0, e1]
  rw [AW_region]
  refine AE_joinR (fun e h' => h = h' ∧ e.length = 72 ∧ e.getD 0 .undef = .str old_ ∧ e.getD 1 .undef = .str to_) (by
    simp only [↓WE, WA, WL, aop, ofValue, ofCell, isConst, abin, acall1, abuiltin, aun, AV.cells, AV.one, Nat.reduceAdd, Int.reduceLT, Int.reduceLE, ↓WD, W0, evalOp, Nat.reduceEqDiff, Nat.reduceLT, ↓reduceIte, reduceCtorEq, hl, e0, e1]
    exact ⟨rfl, (by simp only [List.length_set, hl]), (by simp only [W0, Nat.reduceEqDiff, Nat.reduceLT, ↓reduceIte, hl, e0, e1]), (by simp only [W0, Nat.reduceEqDiff, Nat.reduceLT, ↓reduceIte, hl, e0, e1])⟩) ?_
  rintro envg1 _ ⟨rfl, hl, e0, e1⟩
  try simp only [↓WD, W0, evalOp, Nat.reduceEqDiff, Nat.reduceLT, ↓reduceIte, reduceCtorEq, hl, e0, e1]
  rw [AW_region]
  have ol2 := fun g : AH => alen_str (P := Try.prog) (h := g) (l := old_) Try.underlying9
  have ol3 := fun g : AH => alen_str (P := Try.prog) (h := g) (l := to_) Try.underlying9
  refine AE_joinR (fun e h' => h = h' ∧ e.length = 72 ∧ e.getD 0 .undef = .str old_ ∧ e.getD 1 .undef = .str to_ ∧ e.getD 14 .undef = .bool (decide ((maxI (old_.length : Int) (to_.length : Int)) > 4194304))) (by
    simp only [↓WE, WA, WL, aop, ofValue, ofCell, isConst, abin, acall1, abuiltin, aun, AV.cells, AV.one, Nat.reduceAdd, Int.reduceLT, Int.reduceLE, ↓WD, W0, evalOp, Nat.reduceEqDiff, Nat.reduceLT, ↓reduceIte, reduceCtorEq, hl, e0, e1, ol2, ol3]
    exact ⟨rfl, (by simp only [List.length_set, hl]), (by simp only [W0, Nat.reduceEqDiff, Nat.reduceLT, ↓reduceIte, hl, e0, e1]), (by simp only [W0, Nat.reduceEqDiff, Nat.reduceLT, ↓reduceIte, hl, e0, e1]), (by simp only [W0, Nat.reduceEqDiff, Nat.reduceLT, ↓reduceIte, hl, e0, e1])⟩) ?_
  rintro envg4 _ ⟨rfl, hl, e0, e1, e14⟩
  try simp only [↓WD, W0, evalOp, Nat.reduceEqDiff, Nat.reduceLT, ↓reduceIte, reduceCtorEq, hl, e0, e1, e14]
  refine CondK_dec (fun c7 => ?_) (fun c7 => ?_)
  · rw [if_pos c7] at hF
    try simp only [↓WD, W0, evalOp, Nat.reduceEqDiff, Nat.reduceLT, ↓reduceIte, reduceCtorEq, hl, e0, e1, e14]
    rw [AW_region]
    refine AE_joinR (fun e h' => h = h' ∧ e.length = 72 ∧ e.getD 4 .undef = .str [] ∧ e.getD 5 .undef = .int .i64 7) (by
      simp only [↓WE, WA, WL, aop, ofValue, ofCell, isConst, abin, acall1, abuiltin, aun, AV.cells, AV.one, Nat.reduceAdd, Int.reduceLT, Int.reduceLE, ↓WD, W0, evalOp, Nat.reduceEqDiff, Nat.reduceLT, ↓reduceIte, reduceCtorEq, hl, e0, e1, e14]
      exact ⟨rfl, (by simp only [List.length_set, hl]), (by simp only [W0, Nat.reduceEqDiff, Nat.reduceLT, ↓reduceIte, hl, e0, e1, e14]), (by simp only [W0, Nat.reduceEqDiff, Nat.reduceLT, ↓reduceIte, hl, e0, e1, e14])⟩) ?_
    rintro envg8 _ ⟨rfl, hl, e4, e5⟩
    try simp only [↓WD, W0, evalOp, Nat.reduceEqDiff, Nat.reduceLT, ↓reduceIte, reduceCtorEq, hl, e4, e5]
    refine KP_ret (vs := [.str [], .int .i64 7]) (by simp only [aresults, aresult, gs, List.length_set, Nat.reduceEqDiff, Nat.reduceLT, ↓reduceIte, hl, e4, e5]) ?_
    obtain rfl := Option.some.inj hF
    exact rfl
  · rw [if_neg c7] at hF
    try simp only [↓WD, W0, evalOp, Nat.reduceEqDiff, Nat.reduceLT, ↓reduceIte, reduceCtorEq, hl, e0, e1, e14]
    rw [AW_region]
    have ol9 := fun g : AH => alen_str (P := Try.prog) (h := g) (l := old_) Try.underlying9
    obtain ⟨y10, qy10, hF⟩ := obind hF
    have og11 := fun (D : Drawn) (n : Nat) (g : AH) => call_hook (P := Try.prog) (D := D) k64 n (args := [.int .i64 (old_.length : Int)]) (v := .str y10) ((kf_64_eq (old_.length : Int)).trans (by rw [qy10]; rfl)) g
    have ol12 := fun g : AH => alen_str (P := Try.prog) (h := g) (l := to_) Try.underlying9
    obtain ⟨y13, qy13, hF⟩ := obind hF
    have og14 := fun (D : Drawn) (n : Nat) (g : AH) => call_hook (P := Try.prog) (D := D) k64 n (args := [.int .i64 (to_.length : Int)]) (v := .str y13) ((kf_64_eq (to_.length : Int)).trans (by rw [qy13]; rfl)) g
    obtain ⟨s15, qs15, hF⟩ := obind hF
    have os15 := cat_str qs15
    refine AE_joinR (fun e h' => h = h' ∧ e.length = 72 ∧ e.getD 0 .undef = .str old_ ∧ e.getD 1 .undef = .str to_ ∧ e.getD 6 .undef = .str s15) (by
      simp only [↓WE, WA, WL, aop, ofValue, ofCell, isConst, abin, acall1, abuiltin, aun, AV.cells, AV.one, Nat.reduceAdd, Int.reduceLT, Int.reduceLE, ↓WD, W0, evalOp, Nat.reduceEqDiff, Nat.reduceLT, ↓reduceIte, reduceCtorEq, hl, e0, e1, e14, ol9, og11, ol12, og14, os15]
      exact ⟨rfl, (by simp only [List.length_set, hl]), (by simp only [W0, Nat.reduceEqDiff, Nat.reduceLT, ↓reduceIte, hl, e0, e1, e14]), (by simp only [W0, Nat.reduceEqDiff, Nat.reduceLT, ↓reduceIte, hl, e0, e1, e14]), (by simp only [W0, Nat.reduceEqDiff, Nat.reduceLT, ↓reduceIte, hl, e0, e1, e14])⟩) ?_
    rintro envg16 _ ⟨rfl, hl, e0, e1, e6⟩
    try simp only [↓WD, W0, evalOp, Nat.reduceEqDiff, Nat.reduceLT, ↓reduceIte, reduceCtorEq, hl, e0, e1, e6]
    rw [AW_region]
    refine AE_joinR (fun e h' => h = h' ∧ e.length = 72 ∧ e.getD 0 .undef = .str old_ ∧ e.getD 1 .undef = .str to_ ∧ e.getD 6 .undef = .str s15 ∧ e.getD 24 .undef = .bool (old_ == to_)) (by
      simp only [↓WE, WA, WL, aop, ofValue, ofCell, isConst, abin, acall1, abuiltin, aun, AV.cells, AV.one, Nat.reduceAdd, Int.reduceLT, Int.reduceLE, ↓WD, W0, evalOp, Nat.reduceEqDiff, Nat.reduceLT, ↓reduceIte, reduceCtorEq, hl, e0, e1, e6]
      exact ⟨rfl, (by simp only [List.length_set, hl]), (by simp only [W0, Nat.reduceEqDiff, Nat.reduceLT, ↓reduceIte, hl, e0, e1, e6]), (by simp only [W0, Nat.reduceEqDiff, Nat.reduceLT, ↓reduceIte, hl, e0, e1, e6]), (by simp only [W0, Nat.reduceEqDiff, Nat.reduceLT, ↓reduceIte, hl, e0, e1, e6]), (by simp only [W0, Nat.reduceEqDiff, Nat.reduceLT, ↓reduceIte, hl, e0, e1, e6])⟩) ?_
    rintro envg17 _ ⟨rfl, hl, e0, e1, e6, e24⟩
    try simp only [↓WD, W0, evalOp, Nat.reduceEqDiff, Nat.reduceLT, ↓reduceIte, reduceCtorEq, hl, e0, e1, e6, e24]
    refine CondK_boo (fun c32 => ?_) (fun c32 => ?_)
    · rw [if_pos c32] at hF
      try simp only [↓WD, W0, evalOp, Nat.reduceEqDiff, Nat.reduceLT, ↓reduceIte, reduceCtorEq, hl, e0, e1, e6, e24]
      rw [AW_region]
      refine AE_joinR (fun e h' => h = h' ∧ e.length = 72 ∧ e.getD 1 .undef = .str to_ ∧ e.getD 6 .undef = .str s15 ∧ e.getD 26 .undef = .bool (to_ == [])) (by
        simp only [↓WE, WA, WL, aop, ofValue, ofCell, isConst, abin, acall1, abuiltin, aun, AV.cells, AV.one, Nat.reduceAdd, Int.reduceLT, Int.reduceLE, ↓WD, W0, evalOp, Nat.reduceEqDiff, Nat.reduceLT, ↓reduceIte, reduceCtorEq, hl, e0, e1, e6, e24]
        exact ⟨rfl, (by simp only [List.length_set, hl]), (by simp only [W0, Nat.reduceEqDiff, Nat.reduceLT, ↓reduceIte, hl, e0, e1, e6, e24]), (by simp only [W0, Nat.reduceEqDiff, Nat.reduceLT, ↓reduceIte, hl, e0, e1, e6, e24]), (by simp only [W0, Nat.reduceEqDiff, Nat.reduceLT, ↓reduceIte, hl, e0, e1, e6, e24])⟩) ?_
      rintro envg33 _ ⟨rfl, hl, e1, e6, e26⟩
      try simp only [↓WD, W0, evalOp, Nat.reduceEqDiff, Nat.reduceLT, ↓reduceIte, reduceCtorEq, hl, e1, e6, e26]
      refine CondK_boo (fun c36 => ?_) (fun c36 => ?_)
      · rw [if_pos c36] at hF
        try simp only [↓WD, W0, evalOp, Nat.reduceEqDiff, Nat.reduceLT, ↓reduceIte, reduceCtorEq, hl, e1, e6, e26]
        rw [AW_region]
        refine AE_joinR (fun e h' => h = h' ∧ e.length = 72 ∧ e.getD 4 .undef = .str s15 ∧ e.getD 5 .undef = .int .i64 0) (by
          simp only [↓WE, WA, WL, aop, ofValue, ofCell, isConst, abin, acall1, abuiltin, aun, AV.cells, AV.one, Nat.reduceAdd, Int.reduceLT, Int.reduceLE, ↓WD, W0, evalOp, Nat.reduceEqDiff, Nat.reduceLT, ↓reduceIte, reduceCtorEq, hl, e1, e6, e26]
          exact ⟨rfl, (by simp only [List.length_set, hl]), (by simp only [W0, Nat.reduceEqDiff, Nat.reduceLT, ↓reduceIte, hl, e1, e6, e26]), (by simp only [W0, Nat.reduceEqDiff, Nat.reduceLT, ↓reduceIte, hl, e1, e6, e26])⟩) ?_
        rintro envg37 _ ⟨rfl, hl, e4, e5⟩
        try simp only [↓WD, W0, evalOp, Nat.reduceEqDiff, Nat.reduceLT, ↓reduceIte, reduceCtorEq, hl, e4, e5]
        refine KP_ret (vs := [.str s15, .int .i64 0]) (by simp only [aresults, aresult, gs, List.length_set, Nat.reduceEqDiff, Nat.reduceLT, ↓reduceIte, hl, e4, e5]) ?_
        obtain rfl := Option.some.inj hF
        exact rfl
      · rw [if_neg (nf c36)] at hF
        try simp only [↓WD, W0, evalOp, Nat.reduceEqDiff, Nat.reduceLT, ↓reduceIte, reduceCtorEq, hl, e1, e6, e26]
        rw [AW_region]
        have ol38 := fun g : AH => alen_str (P := Try.prog) (h := g) (l := to_) Try.underlying9
        obtain ⟨y39, qy39, hF⟩ := obind hF
        have og40 := fun (D : Drawn) (n : Nat) (g : AH) => call_hook (P := Try.prog) (D := D) k64 n (args := [.int .i64 (IntKind.i64.wrap (2 * (to_.length : Int)))]) (v := .str y39) ((kf_64_eq (IntKind.i64.wrap (2 * (to_.length : Int)))).trans (by rw [qy39]; rfl)) g
        obtain ⟨s41, qs41, hF⟩ := obind hF
        have os41 := cat_str qs41
        obtain ⟨y42, qy42, hF⟩ := obind hF
        have og43 := fun (D : Drawn) (n : Nat) (g : AH) => call_hook (P := Try.prog) (D := D) k64 n (args := [.int .i64 0]) (v := .str y42) ((kf_64_eq 0).trans (by rw [qy42]; rfl)) g
        obtain ⟨s44, qs44, hF⟩ := obind hF
        have os44 := cat_str qs44
        refine AE_joinR (fun e h' => h = h' ∧ e.length = 72 ∧ e.getD 4 .undef = .str s44 ∧ e.getD 5 .undef = .int .i64 0) (by
          simp only [↓WE, WA, WL, aop, ofValue, ofCell, isConst, abin, acall1, abuiltin, aun, AV.cells, AV.one, Nat.reduceAdd, Int.reduceLT, Int.reduceLE, ↓WD, W0, evalOp, Nat.reduceEqDiff, Nat.reduceLT, ↓reduceIte, reduceCtorEq, hl, e1, e6, e26, ol38, og40, os41, og43, os44]
          exact ⟨rfl, (by simp only [List.length_set, hl]), (by simp only [W0, Nat.reduceEqDiff, Nat.reduceLT, ↓reduceIte, hl, e1, e6, e26]), (by simp only [W0, Nat.reduceEqDiff, Nat.reduceLT, ↓reduceIte, hl, e1, e6, e26])⟩) ?_
        rintro envg45 _ ⟨rfl, hl, e4, e5⟩
        try simp only [↓WD, W0, evalOp, Nat.reduceEqDiff, Nat.reduceLT, ↓reduceIte, reduceCtorEq, hl, e4, e5]
        refine KP_ret (vs := [.str s44, .int .i64 0]) (by simp only [aresults, aresult, gs, List.length_set, Nat.reduceEqDiff, Nat.reduceLT, ↓reduceIte, hl, e4, e5]) ?_
        obtain rfl := Option.some.inj hF
        exact rfl
    · rw [if_neg (nf c32)] at hF
      try simp only [↓WD, W0, evalOp, Nat.reduceEqDiff, Nat.reduceLT, ↓reduceIte, reduceCtorEq, hl, e0, e1, e6, e24]
      rw [AW_region]
      obtain ⟨i46, h47, oi48, oh49, S50⟩ := Sep.mmake (fk := AV.str) (fv := (AV.int .i64)) S0
      have S52 : Sep h [] h47 [.mp i46 (GMap.cells AV.str (AV.int .i64) (mnew : GMap (List UInt8) Int)) (GMap.clock (mnew : GMap (List UInt8) Int))] := S50
      obtain ⟨i53, h54, oa55, S56⟩ := S52.alloc 110 [.str old_, .str to_, .val (.pointer none), .val (.slice none 0 0), .int .i64 0, .map i46]
      have S58 : Sep h [] h54 [.mp i46 (GMap.cells AV.str (AV.int .i64) (mnew : GMap (List UInt8) Int)) (GMap.clock (mnew : GMap (List UInt8) Int)), .blk i53 [.str old_, .str to_, .val (.pointer none), .val (.slice none 0 0), .int .i64 0, .map i46] 110] := S56
      have S60 : Sep h [] h54 [.mp i46 (GMap.cells AV.str (AV.int .i64) (mnew : GMap (List UInt8) Int)) (GMap.clock (mnew : GMap (List UInt8) Int)), .blk i53 [.str old_, .str to_, .val (.pointer none), .val (.slice none 0 0), .int .i64 0, .map i46] 110, .buf i53 2 (.val (.pointer none)) (.val (.slice none 0 0)) 5 ([] : List UInt8)] := S58.nilbuf i53 2 5
      refine AE_joinR (fun e h' => h54 = h' ∧ e.length = 72 ∧ e.getD 1 .undef = .str to_ ∧ e.getD 6 .undef = .str s15 ∧ e.getD 7 .undef = .ptr i53 0) (by
        simp only [↓WE, WA, WL, aop, ofValue, ofCell, isConst, abin, acall1, abuiltin, aun, AV.cells, AV.one, Nat.reduceAdd, Int.reduceLT, Int.reduceLE, ↓WD, W0, evalOp, Nat.reduceEqDiff, Nat.reduceLT, ↓reduceIte, reduceCtorEq, hl, e0, e1, e6, e24, oi48, oh49, bd_110_0_1_4, oa55]
        exact ⟨rfl, (by simp only [List.length_set, hl]), (by simp only [W0, Nat.reduceEqDiff, Nat.reduceLT, ↓reduceIte, hl, e0, e1, e6, e24]), (by simp only [W0, Nat.reduceEqDiff, Nat.reduceLT, ↓reduceIte, hl, e0, e1, e6, e24]), (by simp only [W0, Nat.reduceEqDiff, Nat.reduceLT, ↓reduceIte, hl, e0, e1, e6, e24])⟩) ?_
      rintro envg61 _ ⟨rfl, hl, e1, e6, e7⟩
      try simp only [↓WD, W0, evalOp, Nat.reduceEqDiff, Nat.reduceLT, ↓reduceIte, reduceCtorEq, hl, e1, e6, e7]
      rw [AW_region]
      obtain ⟨y62, qy62, hF⟩ := obind hF
      have S64 : Sep h [] h54 ([] ++ [.blk i53 [.str old_, .str to_, .val (.pointer none), .val (.slice none 0 0), .int .i64 0, .map i46] 110, .buf i53 2 (.val (.pointer none)) (.val (.slice none 0 0)) 5 ([] : List UInt8), .mp i46 (GMap.cells AV.str (AV.int .i64) (mnew : GMap (List UInt8) Int)) (GMap.clock (mnew : GMap (List UInt8) Int))]) := S60.pick [1, 2, 0] (by decide) rfl
      obtain ⟨v68, h65, og63, zp0q67, zv0q67, zi2q67, rfl, S66⟩ := (W_delta_maker_index n65 m (by omega) h54 i53 (.val (.pointer none)) (.val (.slice none 0 0)) i46 (⟨old_, to_, ([] : List UInt8), 0, (mnew : GMap (List UInt8) Int)⟩ : Gdelta_maker) S64.okA S64.ndA qy62).out
      have S69 : Sep h [] h65 [.blk i53 [.str y62.xold, .str y62.xto, zp0q67, zv0q67, .int .i64 y62.xsaid, .map zi2q67] 110, .buf i53 2 zp0q67 zv0q67 5 y62.xout, .mp zi2q67 (GMap.cells AV.str (AV.int .i64) y62.xblocks) (GMap.clock y62.xblocks)] := S64.callN S66
      refine AE_joinR (fun e h' => h65 = h' ∧ e.length = 72 ∧ e.getD 1 .undef = .str to_ ∧ e.getD 6 .undef = .str s15 ∧ e.getD 7 .undef = .ptr i53 0) (by
        simp only [↓WE, WA, WL, aop, ofValue, ofCell, isConst, abin, acall1, abuiltin, aun, AV.cells, AV.one, Nat.reduceAdd, Int.reduceLT, Int.reduceLE, ↓WD, W0, evalOp, Nat.reduceEqDiff, Nat.reduceLT, ↓reduceIte, reduceCtorEq, hl, e1, e6, e7, og63]
        exact ⟨rfl, (by simp only [List.length_set, hl]), (by simp only [W0, Nat.reduceEqDiff, Nat.reduceLT, ↓reduceIte, hl, e1, e6, e7]), (by simp only [W0, Nat.reduceEqDiff, Nat.reduceLT, ↓reduceIte, hl, e1, e6, e7]), (by simp only [W0, Nat.reduceEqDiff, Nat.reduceLT, ↓reduceIte, hl, e1, e6, e7])⟩) ?_
      rintro envg70 _ ⟨rfl, hl, e1, e6, e7⟩
      try simp only [↓WD, W0, evalOp, Nat.reduceEqDiff, Nat.reduceLT, ↓reduceIte, reduceCtorEq, hl, e1, e6, e7]
      rw [AW_region]
      obtain ⟨y71, qy71, hF⟩ := obind hF
      have S73 : Sep h [] h65 ([] ++ [.blk i53 [.str y62.xold, .str y62.xto, zp0q67, zv0q67, .int .i64 y62.xsaid, .map zi2q67] 110, .buf i53 2 zp0q67 zv0q67 5 y62.xout, .mp zi2q67 (GMap.cells AV.str (AV.int .i64) y62.xblocks) (GMap.clock y62.xblocks)]) := S69.pick [0, 1, 2] (by decide) rfl
      obtain ⟨v77, h74, og72, zp0q76, zv0q76, zi2q76, rfl, S75⟩ := (W_delta_maker_steps k64 k77 n50 n69 n74 n75 n76 n66 m (by omega) h65 i53 zp0q67 zv0q67 zi2q67 y62 S73.okA S73.ndA qy71).out
      have S78 : Sep h [] h74 [.blk i53 [.str y71.xold, .str y71.xto, zp0q76, zv0q76, .int .i64 y71.xsaid, .map zi2q76] 110, .buf i53 2 zp0q76 zv0q76 5 y71.xout, .mp zi2q76 (GMap.cells AV.str (AV.int .i64) y71.xblocks) (GMap.clock y71.xblocks)] := S73.callN S75
      refine AE_joinR (fun e h' => h74 = h' ∧ e.length = 72 ∧ e.getD 1 .undef = .str to_ ∧ e.getD 6 .undef = .str s15 ∧ e.getD 7 .undef = .ptr i53 0) (by
        simp only [↓WE, WA, WL, aop, ofValue, ofCell, isConst, abin, acall1, abuiltin, aun, AV.cells, AV.one, Nat.reduceAdd, Int.reduceLT, Int.reduceLE, ↓WD, W0, evalOp, Nat.reduceEqDiff, Nat.reduceLT, ↓reduceIte, reduceCtorEq, hl, e1, e6, e7, og72]
        exact ⟨rfl, (by simp only [List.length_set, hl]), (by simp only [W0, Nat.reduceEqDiff, Nat.reduceLT, ↓reduceIte, hl, e1, e6, e7]), (by simp only [W0, Nat.reduceEqDiff, Nat.reduceLT, ↓reduceIte, hl, e1, e6, e7]), (by simp only [W0, Nat.reduceEqDiff, Nat.reduceLT, ↓reduceIte, hl, e1, e6, e7])⟩) ?_
      rintro envg79 _ ⟨rfl, hl, e1, e6, e7⟩
      try simp only [↓WD, W0, evalOp, Nat.reduceEqDiff, Nat.reduceLT, ↓reduceIte, reduceCtorEq, hl, e1, e6, e7]
      rw [AW_region]
      have ol80 := fun g : AH => alen_str (P := Try.prog) (h := g) (l := to_) Try.underlying9
      obtain ⟨y81, qy81, hF⟩ := obind hF
      have og82 := fun (D : Drawn) (n : Nat) (g : AH) => call_hook (P := Try.prog) (D := D) k64 n (args := [.int .i64 (IntKind.i64.wrap ((IntKind.i64.wrap (2 * (to_.length : Int))) + 1))]) (v := .str y81) ((kf_64_eq (IntKind.i64.wrap ((IntKind.i64.wrap (2 * (to_.length : Int))) + 1))).trans (by rw [qy81]; rfl)) g
      obtain ⟨s83, qs83, hF⟩ := obind hF
      have os83 := cat_str qs83
      refine AE_joinR (fun e h' => h74 = h' ∧ e.length = 72 ∧ e.getD 1 .undef = .str to_ ∧ e.getD 6 .undef = .str s15 ∧ e.getD 7 .undef = .ptr i53 0 ∧ e.getD 8 .undef = .str s83) (by
        simp only [↓WE, WA, WL, aop, ofValue, ofCell, isConst, abin, acall1, abuiltin, aun, AV.cells, AV.one, Nat.reduceAdd, Int.reduceLT, Int.reduceLE, ↓WD, W0, evalOp, Nat.reduceEqDiff, Nat.reduceLT, ↓reduceIte, reduceCtorEq, hl, e1, e6, e7, ol80, og82, os83]
        exact ⟨rfl, (by simp only [List.length_set, hl]), (by simp only [W0, Nat.reduceEqDiff, Nat.reduceLT, ↓reduceIte, hl, e1, e6, e7]), (by simp only [W0, Nat.reduceEqDiff, Nat.reduceLT, ↓reduceIte, hl, e1, e6, e7]), (by simp only [W0, Nat.reduceEqDiff, Nat.reduceLT, ↓reduceIte, hl, e1, e6, e7]), (by simp only [W0, Nat.reduceEqDiff, Nat.reduceLT, ↓reduceIte, hl, e1, e6, e7])⟩) ?_
      rintro envg84 _ ⟨rfl, hl, e1, e6, e7, e8⟩
      try simp only [↓WD, W0, evalOp, Nat.reduceEqDiff, Nat.reduceLT, ↓reduceIte, reduceCtorEq, hl, e1, e6, e7, e8]
      rw [AW_region]
      obtain ⟨j91, qj91, hF⟩ := obind hF
      refine AE_joinR (fun e h' => e.length = 72 ∧ e.getD 6 .undef = .str s15 ∧ e.getD 7 .undef = .ptr i53 0 ∧ e.getD 8 .undef = .str s83 ∧ e.getD 62 .undef = .bool j91 ∧ Sep h [] h' [.blk i53 [.str y71.xold, .str y71.xto, zp0q76, zv0q76, .int .i64 y71.xsaid, .map zi2q76] 110, .buf i53 2 zp0q76 zv0q76 5 y71.xout, .mp zi2q76 (GMap.cells AV.str (AV.int .i64) y71.xblocks) (GMap.clock y71.xblocks)]) ?_ ?_
      · simp only [↓WE, WA, WL, aop, ofValue, ofCell, isConst, abin, acall1, abuiltin, aun, AV.cells, AV.one, Nat.reduceAdd, Int.reduceLT, Int.reduceLE, ↓WD, W0, evalOp, Nat.reduceEqDiff, Nat.reduceLT, ↓reduceIte, reduceCtorEq, hl, e1, e6, e7, e8]
        refine GuardW_boo (fun c85 => ?_) (fun c85 => ?_)
        · rw [if_pos c85] at qj91
          have d86 := c85
          have S88 : Sep h [] h74 ([.mp zi2q76 (GMap.cells AV.str (AV.int .i64) y71.xblocks) (GMap.clock y71.xblocks)] ++ [.blk i53 ([.str y71.xold, .str y71.xto] ++ zp0q76 :: zv0q76 :: [.int .i64 y71.xsaid, .map zi2q76]) 110, .buf i53 2 zp0q76 zv0q76 5 y71.xout]) := S78.pick [2, 0, 1] (by decide) rfl
          have ow89 : acall Try.prog (hooksOf K) (drawnOf Try.prog (tabOf K)) m 51 [.ptr i53 2] h74 = some (.int .i64 (y71.xout.length : Int), h74) := Sep.slen (T := tabOf K) (pre := [.str y71.xold, .str y71.xto]) (post := [.int .i64 y71.xsaid, .map zi2q76]) S88 n51 m (by omega)
          have ol90 := fun g : AH => alen_str (P := Try.prog) (h := g) (l := s83) Try.underlying9
          simp only [↓WE, WA, WL, aop, ofValue, ofCell, isConst, abin, acall1, abuiltin, aun, AV.cells, AV.one, Nat.reduceAdd, Int.reduceLT, Int.reduceLE, ↓WD, W0, evalOp, Nat.reduceEqDiff, Nat.reduceLT, ↓reduceIte, reduceCtorEq, hl, e1, e6, e7, e8, fa_110_2, ow89, ol90, d86]
          obtain rfl := Option.some.inj qj91
          exact ⟨(by simp only [List.length_set, hl]), (by simp only [W0, Nat.reduceEqDiff, Nat.reduceLT, ↓reduceIte, hl, e1, e6, e7, e8]), (by simp only [W0, Nat.reduceEqDiff, Nat.reduceLT, ↓reduceIte, hl, e1, e6, e7, e8]), (by simp only [W0, Nat.reduceEqDiff, Nat.reduceLT, ↓reduceIte, hl, e1, e6, e7, e8]), (by simp only [W0, Nat.reduceEqDiff, Nat.reduceLT, ↓reduceIte, hl, e1, e6, e7, e8]), S78⟩
        · rw [if_neg (nf c85)] at qj91
          have d87 := c85
          simp only [↓WE, WA, WL, aop, ofValue, ofCell, isConst, abin, acall1, abuiltin, aun, AV.cells, AV.one, Nat.reduceAdd, Int.reduceLT, Int.reduceLE, ↓WD, W0, evalOp, Nat.reduceEqDiff, Nat.reduceLT, ↓reduceIte, reduceCtorEq, hl, e1, e6, e7, e8, d87]
          obtain rfl := Option.some.inj qj91
          exact ⟨(by simp only [List.length_set, hl]), (by simp only [W0, Nat.reduceEqDiff, Nat.reduceLT, ↓reduceIte, hl, e1, e6, e7, e8]), (by simp only [W0, Nat.reduceEqDiff, Nat.reduceLT, ↓reduceIte, hl, e1, e6, e7, e8]), (by simp only [W0, Nat.reduceEqDiff, Nat.reduceLT, ↓reduceIte, hl, e1, e6, e7, e8]), (by simp only [W0, Nat.reduceEqDiff, Nat.reduceLT, ↓reduceIte, hl, e1, e6, e7, e8]), S78⟩
      · rintro envj91 h93 ⟨hl, e6, e7, e8, e62, S92⟩
        try simp only [↓WD, W0, evalOp, Nat.reduceEqDiff, Nat.reduceLT, ↓reduceIte, reduceCtorEq, hl, e6, e7, e8, e62]
        refine CondK_boo (fun c97 => ?_) (fun c97 => ?_)
        · rw [if_pos c97] at hF
          try simp only [↓WD, W0, evalOp, Nat.reduceEqDiff, Nat.reduceLT, ↓reduceIte, reduceCtorEq, hl, e6, e7, e8, e62]
          rw [AW_region]
          obtain ⟨s98, qs98, hF⟩ := obind hF
          have os98 := cat_str qs98
          refine AE_joinR (fun e h' => h93 = h' ∧ e.length = 72 ∧ e.getD 4 .undef = .str s98 ∧ e.getD 5 .undef = .int .i64 0) (by
            simp only [↓WE, WA, WL, aop, ofValue, ofCell, isConst, abin, acall1, abuiltin, aun, AV.cells, AV.one, Nat.reduceAdd, Int.reduceLT, Int.reduceLE, ↓WD, W0, evalOp, Nat.reduceEqDiff, Nat.reduceLT, ↓reduceIte, reduceCtorEq, hl, e6, e7, e8, e62, os98]
            exact ⟨rfl, (by simp only [List.length_set, hl]), (by simp only [W0, Nat.reduceEqDiff, Nat.reduceLT, ↓reduceIte, hl, e6, e7, e8, e62]), (by simp only [W0, Nat.reduceEqDiff, Nat.reduceLT, ↓reduceIte, hl, e6, e7, e8, e62])⟩) ?_
          rintro envg99 _ ⟨rfl, hl, e4, e5⟩
          try simp only [↓WD, W0, evalOp, Nat.reduceEqDiff, Nat.reduceLT, ↓reduceIte, reduceCtorEq, hl, e4, e5]
          refine KP_ret (vs := [.str s98, .int .i64 0]) (by simp only [aresults, aresult, gs, List.length_set, Nat.reduceEqDiff, Nat.reduceLT, ↓reduceIte, hl, e4, e5]) ?_
          obtain rfl := Option.some.inj hF
          exact rfl
        · rw [if_neg (nf c97)] at hF
          try simp only [↓WD, W0, evalOp, Nat.reduceEqDiff, Nat.reduceLT, ↓reduceIte, reduceCtorEq, hl, e6, e7, e8, e62]
          rw [AW_region]
          have S100 : Sep h [] h93 ([.mp zi2q76 (GMap.cells AV.str (AV.int .i64) y71.xblocks) (GMap.clock y71.xblocks)] ++ [.blk i53 ([.str y71.xold, .str y71.xto] ++ zp0q76 :: zv0q76 :: [.int .i64 y71.xsaid, .map zi2q76]) 110, .buf i53 2 zp0q76 zv0q76 5 y71.xout]) := S92.pick [2, 0, 1] (by decide) rfl
          obtain ⟨_, q105, hF⟩ := obind hF
          obtain ⟨h101, ow104, S103⟩ := Sep.sstring (T := tabOf K) (pre := [.str y71.xold, .str y71.xto]) (post := [.int .i64 y71.xsaid, .map zi2q76]) S100 n52 (chkCap_le q105) m (by omega)
          have ow102 : acall Try.prog (hooksOf K) (drawnOf Try.prog (tabOf K)) m 52 [.ptr i53 2] h93 = some (.str y71.xout, h101) := ow104
          have S106 : Sep h [] h101 [.mp zi2q76 (GMap.cells AV.str (AV.int .i64) y71.xblocks) (GMap.clock y71.xblocks), .blk i53 [.str y71.xold, .str y71.xto, zp0q76, zv0q76, .int .i64 y71.xsaid, .map zi2q76] 110] := S103
          obtain ⟨s107, qs107, hF⟩ := obind hF
          have os107 := cat_str qs107
          refine AE_joinR (fun e h' => h101 = h' ∧ e.length = 72 ∧ e.getD 4 .undef = .str s107 ∧ e.getD 5 .undef = .int .i64 0) (by
            simp only [↓WE, WA, WL, aop, ofValue, ofCell, isConst, abin, acall1, abuiltin, aun, AV.cells, AV.one, Nat.reduceAdd, Int.reduceLT, Int.reduceLE, ↓WD, W0, evalOp, Nat.reduceEqDiff, Nat.reduceLT, ↓reduceIte, reduceCtorEq, hl, e6, e7, e8, e62, fa_110_2, ow102, os107]
            exact ⟨rfl, (by simp only [List.length_set, hl]), (by simp only [W0, Nat.reduceEqDiff, Nat.reduceLT, ↓reduceIte, hl, e6, e7, e8, e62]), (by simp only [W0, Nat.reduceEqDiff, Nat.reduceLT, ↓reduceIte, hl, e6, e7, e8, e62])⟩) ?_
          rintro envg108 _ ⟨rfl, hl, e4, e5⟩
          try simp only [↓WD, W0, evalOp, Nat.reduceEqDiff, Nat.reduceLT, ↓reduceIte, reduceCtorEq, hl, e4, e5]
          refine KP_ret (vs := [.str s107, .int .i64 0]) (by simp only [aresults, aresult, gs, List.length_set, Nat.reduceEqDiff, Nat.reduceLT, ↓reduceIte, hl, e4, e5]) ?_
          obtain rfl := Option.some.inj hF
          exact rfl
set_option maxRecDepth 100000 in
set_option maxHeartbeats 4000000 in
theorem W_delta_Next {K : PureK} (n40 : K 40 = none) (m : Nat) (hm : NF + 1 ≤ m) (h : AH) (s_ : List UInt8) (at_ : Int) {r : Int × Int × Int} (hF : F_delta_Next s_ at_ = some r) :
    AR (acall Try.prog (hooksOf K) (drawnOf Try.prog (tabOf K)) m 40 [.str s_, .int .i64 at_] h) (fun v h' => v = .tup [.int .i64 r.1, .int .i64 r.2.1, .int .i64 r.2.2]) := by
  obtain ⟨m, rfl⟩ : ∃ k, m = k + 1 := ⟨m - 1, by omega⟩
  refine AR_call (hooksOf_none n40) Try.func40 rfl _ _ fun env hl he => ?_
  have e0 := he 0
  have e1 := he 1
  simp only [List.getD_cons_zero, List.getD_cons_succ] at e0 e1
  simp only [Try.f40] at hl ⊢
  simp only [List.length_cons, List.length_nil, Nat.reduceAdd, Nat.reduceSub] at hl
  clear he
  have S0 : Sep h [] h [] := Sep.nil h
  rw [F_delta_Next] at hF
  try simp only [↓WD, W0, evalOp, Nat.reduceEqDiff, Nat.reduceLT, ↓reduceIte, reduceCtorEq, hl, e0, e1]
  rw [AW_region]
  refine AE_joinR (fun e h' => h = h' ∧ e.length = 54 ∧ e.getD 0 .undef = .str s_ ∧ e.getD 1 .undef = .int .i64 at_) (by
    simp only [↓WE, WA, WL, aop, ofValue, ofCell, isConst, abin, acall1, abuiltin, aun, AV.cells, AV.one, Nat.reduceAdd, Int.reduceLT, Int.reduceLE, ↓WD, W0, evalOp, Nat.reduceEqDiff, Nat.reduceLT, ↓reduceIte, reduceCtorEq, hl, e0, e1]
    exact ⟨rfl, (by simp only [List.length_set, hl]), (by simp only [W0, Nat.reduceEqDiff, Nat.reduceLT, ↓reduceIte, hl, e0, e1]), (by simp only [W0, Nat.reduceEqDiff, Nat.reduceLT, ↓reduceIte, hl, e0, e1])⟩) ?_
  rintro envg1 _ ⟨rfl, hl, e0, e1⟩
  try simp only [↓WD, W0, evalOp, Nat.reduceEqDiff, Nat.reduceLT, ↓reduceIte, reduceCtorEq, hl, e0, e1]
  rw [AW_region]
  obtain ⟨j6, qj6, hF⟩ := obind hF
  refine AE_joinR (fun e h' => e.length = 54 ∧ e.getD 0 .undef = .str s_ ∧ e.getD 1 .undef = .int .i64 at_ ∧ e.getD 17 .undef = .bool j6 ∧ Sep h [] h' []) ?_ ?_
  · simp only [↓WE, WA, WL, aop, ofValue, ofCell, isConst, abin, acall1, abuiltin, aun, AV.cells, AV.one, Nat.reduceAdd, Int.reduceLT, Int.reduceLE, ↓WD, W0, evalOp, Nat.reduceEqDiff, Nat.reduceLT, ↓reduceIte, reduceCtorEq, hl, e0, e1]
    refine GuardW_dec (fun c2 => ?_) (fun c2 => ?_)
    · rw [if_pos c2] at qj6
      have d3 : (decide (at_ < 0)) = true := decide_eq_true c2
      simp only [↓WE, WA, WL, aop, ofValue, ofCell, isConst, abin, acall1, abuiltin, aun, AV.cells, AV.one, Nat.reduceAdd, Int.reduceLT, Int.reduceLE, ↓WD, W0, evalOp, Nat.reduceEqDiff, Nat.reduceLT, ↓reduceIte, reduceCtorEq, hl, e0, e1, d3]
      obtain rfl := Option.some.inj qj6
      exact ⟨(by simp only [List.length_set, hl]), (by simp only [W0, Nat.reduceEqDiff, Nat.reduceLT, ↓reduceIte, hl, e0, e1]), (by simp only [W0, Nat.reduceEqDiff, Nat.reduceLT, ↓reduceIte, hl, e0, e1]), (by simp only [W0, Nat.reduceEqDiff, Nat.reduceLT, ↓reduceIte, hl, e0, e1]), S0⟩
    · rw [if_neg c2] at qj6
      have d4 : (decide (at_ < 0)) = false := decide_eq_false c2
      have ol5 := fun g : AH => alen_str (P := Try.prog) (h := g) (l := s_) Try.underlying9
      simp only [↓WE, WA, WL, aop, ofValue, ofCell, isConst, abin, acall1, abuiltin, aun, AV.cells, AV.one, Nat.reduceAdd, Int.reduceLT, Int.reduceLE, ↓WD, W0, evalOp, Nat.reduceEqDiff, Nat.reduceLT, ↓reduceIte, reduceCtorEq, hl, e0, e1, ol5, d4]
      obtain rfl := Option.some.inj qj6
      exact ⟨(by simp only [List.length_set, hl]), (by simp only [W0, Nat.reduceEqDiff, Nat.reduceLT, ↓reduceIte, hl, e0, e1]), (by simp only [W0, Nat.reduceEqDiff, Nat.reduceLT, ↓reduceIte, hl, e0, e1]), (by simp only [W0, Nat.reduceEqDiff, Nat.reduceLT, ↓reduceIte, hl, e0, e1]), S0⟩
  · rintro envj6 h8 ⟨hl, e0, e1, e17, S7⟩
    try simp only [↓WD, W0, evalOp, Nat.reduceEqDiff, Nat.reduceLT, ↓reduceIte, reduceCtorEq, hl, e0, e1, e17]
    refine CondK_boo (fun c11 => ?_) (fun c11 => ?_)
    · rw [if_pos c11] at hF
      try simp only [↓WD, W0, evalOp, Nat.reduceEqDiff, Nat.reduceLT, ↓reduceIte, reduceCtorEq, hl, e0, e1, e17]
      rw [AW_region]
      refine AE_joinR (fun e h' => h8 = h' ∧ e.length = 54 ∧ e.getD 4 .undef = .int .i64 0 ∧ e.getD 5 .undef = .int .i64 0 ∧ e.getD 6 .undef = .int .i64 3) (by
        simp only [↓WE, WA, WL, aop, ofValue, ofCell, isConst, abin, acall1, abuiltin, aun, AV.cells, AV.one, Nat.reduceAdd, Int.reduceLT, Int.reduceLE, ↓WD, W0, evalOp, Nat.reduceEqDiff, Nat.reduceLT, ↓reduceIte, reduceCtorEq, hl, e0, e1, e17]
        exact ⟨rfl, (by simp only [List.length_set, hl]), (by simp only [W0, Nat.reduceEqDiff, Nat.reduceLT, ↓reduceIte, hl, e0, e1, e17]), (by simp only [W0, Nat.reduceEqDiff, Nat.reduceLT, ↓reduceIte, hl, e0, e1, e17]), (by simp only [W0, Nat.reduceEqDiff, Nat.reduceLT, ↓reduceIte, hl, e0, e1, e17])⟩) ?_
      rintro envg12 _ ⟨rfl, hl, e4, e5, e6⟩
      try simp only [↓WD, W0, evalOp, Nat.reduceEqDiff, Nat.reduceLT, ↓reduceIte, reduceCtorEq, hl, e4, e5, e6]
      refine KP_ret (vs := [.int .i64 0, .int .i64 0, .int .i64 3]) (by simp only [aresults, aresult, gs, List.length_set, Nat.reduceEqDiff, Nat.reduceLT, ↓reduceIte, hl, e4, e5, e6]) ?_
      obtain rfl := Option.some.inj hF
      exact rfl
    · rw [if_neg (nf c11)] at hF
      try simp only [↓WD, W0, evalOp, Nat.reduceEqDiff, Nat.reduceLT, ↓reduceIte, reduceCtorEq, hl, e0, e1, e17]
      rw [AW_region]
      refine AE_joinR (fun e h' => h8 = h' ∧ e.length = 54 ∧ e.getD 0 .undef = .str s_ ∧ e.getD 1 .undef = .int .i64 at_ ∧ e.getD 7 .undef = .int .i64 0) (by
        simp only [↓WE, WA, WL, aop, ofValue, ofCell, isConst, abin, acall1, abuiltin, aun, AV.cells, AV.one, Nat.reduceAdd, Int.reduceLT, Int.reduceLE, ↓WD, W0, evalOp, Nat.reduceEqDiff, Nat.reduceLT, ↓reduceIte, reduceCtorEq, hl, e0, e1, e17]
        exact ⟨rfl, (by simp only [List.length_set, hl]), (by simp only [W0, Nat.reduceEqDiff, Nat.reduceLT, ↓reduceIte, hl, e0, e1, e17]), (by simp only [W0, Nat.reduceEqDiff, Nat.reduceLT, ↓reduceIte, hl, e0, e1, e17]), (by simp only [W0, Nat.reduceEqDiff, Nat.reduceLT, ↓reduceIte, hl, e0, e1, e17])⟩) ?_
      rintro envg13 _ ⟨rfl, hl, e0, e1, e7⟩
      try simp only [↓WD, W0, evalOp, Nat.reduceEqDiff, Nat.reduceLT, ↓reduceIte, reduceCtorEq, hl, e0, e1, e7]
      rw [AW_region]
      refine AE_joinR (fun e h' => h8 = h' ∧ e.length = 54 ∧ e.getD 0 .undef = .str s_ ∧ e.getD 1 .undef = .int .i64 at_ ∧ e.getD 7 .undef = .int .i64 0 ∧ e.getD 18 .undef = .int .i64 0) (by
        simp only [↓WE, WA, WL, aop, ofValue, ofCell, isConst, abin, acall1, abuiltin, aun, AV.cells, AV.one, Nat.reduceAdd, Int.reduceLT, Int.reduceLE, ↓WD, W0, evalOp, Nat.reduceEqDiff, Nat.reduceLT, ↓reduceIte, reduceCtorEq, hl, e0, e1, e7]
        exact ⟨rfl, (by simp only [List.length_set, hl]), (by simp only [W0, Nat.reduceEqDiff, Nat.reduceLT, ↓reduceIte, hl, e0, e1, e7]), (by simp only [W0, Nat.reduceEqDiff, Nat.reduceLT, ↓reduceIte, hl, e0, e1, e7]), (by simp only [W0, Nat.reduceEqDiff, Nat.reduceLT, ↓reduceIte, hl, e0, e1, e7]), (by simp only [W0, Nat.reduceEqDiff, Nat.reduceLT, ↓reduceIte, hl, e0, e1, e7])⟩) ?_
      rintro envg14 _ ⟨rfl, hl, e0, e1, e7, e18⟩
      try simp only [↓WD, W0, evalOp, Nat.reduceEqDiff, Nat.reduceLT, ↓reduceIte, reduceCtorEq, hl, e0, e1, e7, e18]
      obtain ⟨r93, qr93, hF⟩ := obind hF
      refine AW_lift (L_delta_Next_1 at_ s_) (fun s e h' => e.length = 54 ∧ e.getD 0 .undef = .str s_ ∧ e.getD 1 .undef = .int .i64 at_ ∧ e.getD 7 .undef = .int .i64 s.1 ∧ e.getD 18 .undef = .int .i64 s.2 ∧ Sep h [] h' []) (fun r93 x e h' => (∃ (t94 : Unit), r93 = (.inl t94) ∧ x = .exit 0 ∧ e.length = 54 ∧ Sep h [] h' []) ∨ (∃ (t97 : Int × Int × Int), r93 = (.inr t97) ∧ x = .ret ∧ e.length = 54 ∧ e.getD 4 .undef = .int .i64 t97.1 ∧ e.getD 5 .undef = .int .i64 t97.2.1 ∧ e.getD 6 .undef = .int .i64 t97.2.2 ∧ Sep h [] h' [])) qr93 (by omega) ?_ ?_ ?_
      · rintro s envr93 h54 or93 ⟨hl, e0, e1, e7, e18, S55⟩ wr93
        rw [L_delta_Next_1] at wr93
        try simp only [↓WD, W0, evalOp, Nat.reduceEqDiff, Nat.reduceLT, ↓reduceIte, reduceCtorEq, hl, e0, e1, e7, e18]
        rw [AW_region]
        refine AE_joinR (fun e h' => h54 = h' ∧ e.length = 54 ∧ e.getD 0 .undef = .str s_ ∧ e.getD 1 .undef = .int .i64 at_ ∧ e.getD 7 .undef = .int .i64 s.1 ∧ e.getD 18 .undef = .int .i64 s.2 ∧ e.getD 19 .undef = .bool (decide (s.2 < 4))) (by
          simp only [↓WE, WA, WL, aop, ofValue, ofCell, isConst, abin, acall1, abuiltin, aun, AV.cells, AV.one, Nat.reduceAdd, Int.reduceLT, Int.reduceLE, ↓WD, W0, evalOp, Nat.reduceEqDiff, Nat.reduceLT, ↓reduceIte, reduceCtorEq, hl, e0, e1, e7, e18]
          exact ⟨rfl, (by simp only [List.length_set, hl]), (by simp only [W0, Nat.reduceEqDiff, Nat.reduceLT, ↓reduceIte, hl, e0, e1, e7, e18]), (by simp only [W0, Nat.reduceEqDiff, Nat.reduceLT, ↓reduceIte, hl, e0, e1, e7, e18]), (by simp only [W0, Nat.reduceEqDiff, Nat.reduceLT, ↓reduceIte, hl, e0, e1, e7, e18]), (by simp only [W0, Nat.reduceEqDiff, Nat.reduceLT, ↓reduceIte, hl, e0, e1, e7, e18]), (by simp only [W0, Nat.reduceEqDiff, Nat.reduceLT, ↓reduceIte, hl, e0, e1, e7, e18])⟩) ?_
        rintro envg56 _ ⟨rfl, hl, e0, e1, e7, e18, e19⟩
        try simp only [↓WD, W0, evalOp, Nat.reduceEqDiff, Nat.reduceLT, ↓reduceIte, reduceCtorEq, hl, e0, e1, e7, e18, e19]
        refine CondK_dec (fun c58 => ?_) (fun c58 => ?_)
        · rw [if_pos c58] at wr93
          try simp only [↓WD, W0, evalOp, Nat.reduceEqDiff, Nat.reduceLT, ↓reduceIte, reduceCtorEq, hl, e0, e1, e7, e18, e19]
          rw [AW_region]
          refine AE_joinR (fun e h' => h54 = h' ∧ e.length = 54 ∧ e.getD 0 .undef = .str s_ ∧ e.getD 1 .undef = .int .i64 at_ ∧ e.getD 7 .undef = .int .i64 s.1 ∧ e.getD 8 .undef = .int .i64 s.2 ∧ e.getD 18 .undef = .int .i64 s.2) (by
            simp only [↓WE, WA, WL, aop, ofValue, ofCell, isConst, abin, acall1, abuiltin, aun, AV.cells, AV.one, Nat.reduceAdd, Int.reduceLT, Int.reduceLE, ↓WD, W0, evalOp, Nat.reduceEqDiff, Nat.reduceLT, ↓reduceIte, reduceCtorEq, hl, e0, e1, e7, e18, e19]
            exact ⟨rfl, (by simp only [List.length_set, hl]), (by simp only [W0, Nat.reduceEqDiff, Nat.reduceLT, ↓reduceIte, hl, e0, e1, e7, e18, e19]), (by simp only [W0, Nat.reduceEqDiff, Nat.reduceLT, ↓reduceIte, hl, e0, e1, e7, e18, e19]), (by simp only [W0, Nat.reduceEqDiff, Nat.reduceLT, ↓reduceIte, hl, e0, e1, e7, e18, e19]), (by simp only [W0, Nat.reduceEqDiff, Nat.reduceLT, ↓reduceIte, hl, e0, e1, e7, e18, e19]), (by simp only [W0, Nat.reduceEqDiff, Nat.reduceLT, ↓reduceIte, hl, e0, e1, e7, e18, e19])⟩) ?_
          rintro envg59 _ ⟨rfl, hl, e0, e1, e7, e8, e18⟩
          try simp only [↓WD, W0, evalOp, Nat.reduceEqDiff, Nat.reduceLT, ↓reduceIte, reduceCtorEq, hl, e0, e1, e7, e8, e18]
          rw [AW_region]
          have ol60 := fun g : AH => alen_str (P := Try.prog) (h := g) (l := s_) Try.underlying9
          refine AE_joinR (fun e h' => h54 = h' ∧ e.length = 54 ∧ e.getD 0 .undef = .str s_ ∧ e.getD 1 .undef = .int .i64 at_ ∧ e.getD 7 .undef = .int .i64 s.1 ∧ e.getD 8 .undef = .int .i64 s.2 ∧ e.getD 18 .undef = .int .i64 s.2 ∧ e.getD 26 .undef = .bool (decide ((IntKind.i64.wrap (at_ + s.2)) ≥ (s_.length : Int)))) (by
            simp only [↓WE, WA, WL, aop, ofValue, ofCell, isConst, abin, acall1, abuiltin, aun, AV.cells, AV.one, Nat.reduceAdd, Int.reduceLT, Int.reduceLE, ↓WD, W0, evalOp, Nat.reduceEqDiff, Nat.reduceLT, ↓reduceIte, reduceCtorEq, hl, e0, e1, e7, e8, e18, ol60]
            exact ⟨rfl, (by simp only [List.length_set, hl]), (by simp only [W0, Nat.reduceEqDiff, Nat.reduceLT, ↓reduceIte, hl, e0, e1, e7, e8, e18]), (by simp only [W0, Nat.reduceEqDiff, Nat.reduceLT, ↓reduceIte, hl, e0, e1, e7, e8, e18]), (by simp only [W0, Nat.reduceEqDiff, Nat.reduceLT, ↓reduceIte, hl, e0, e1, e7, e8, e18]), (by simp only [W0, Nat.reduceEqDiff, Nat.reduceLT, ↓reduceIte, hl, e0, e1, e7, e8, e18]), (by simp only [W0, Nat.reduceEqDiff, Nat.reduceLT, ↓reduceIte, hl, e0, e1, e7, e8, e18]), (by simp only [W0, Nat.reduceEqDiff, Nat.reduceLT, ↓reduceIte, hl, e0, e1, e7, e8, e18])⟩) ?_
          rintro envg61 _ ⟨rfl, hl, e0, e1, e7, e8, e18, e26⟩
          try simp only [↓WD, W0, evalOp, Nat.reduceEqDiff, Nat.reduceLT, ↓reduceIte, reduceCtorEq, hl, e0, e1, e7, e8, e18, e26]
          refine CondK_dec (fun c64 => ?_) (fun c64 => ?_)
          · rw [if_pos c64] at wr93
            try simp only [↓WD, W0, evalOp, Nat.reduceEqDiff, Nat.reduceLT, ↓reduceIte, reduceCtorEq, hl, e0, e1, e7, e8, e18, e26]
            rw [AW_region]
            refine AE_joinR (fun e h' => h54 = h' ∧ e.length = 54 ∧ e.getD 4 .undef = .int .i64 0 ∧ e.getD 5 .undef = .int .i64 0 ∧ e.getD 6 .undef = .int .i64 3) (by
              simp only [↓WE, WA, WL, aop, ofValue, ofCell, isConst, abin, acall1, abuiltin, aun, AV.cells, AV.one, Nat.reduceAdd, Int.reduceLT, Int.reduceLE, ↓WD, W0, evalOp, Nat.reduceEqDiff, Nat.reduceLT, ↓reduceIte, reduceCtorEq, hl, e0, e1, e7, e8, e18, e26]
              exact ⟨rfl, (by simp only [List.length_set, hl]), (by simp only [W0, Nat.reduceEqDiff, Nat.reduceLT, ↓reduceIte, hl, e0, e1, e7, e8, e18, e26]), (by simp only [W0, Nat.reduceEqDiff, Nat.reduceLT, ↓reduceIte, hl, e0, e1, e7, e8, e18, e26]), (by simp only [W0, Nat.reduceEqDiff, Nat.reduceLT, ↓reduceIte, hl, e0, e1, e7, e8, e18, e26])⟩) ?_
            rintro envg65 _ ⟨rfl, hl, e4, e5, e6⟩
            try simp only [↓WD, W0, evalOp, Nat.reduceEqDiff, Nat.reduceLT, ↓reduceIte, reduceCtorEq, hl, e4, e5, e6]
            obtain rfl := Option.some.inj wr93
            rw [KP_nil, QL_ret]
            exact ⟨_, rfl, .inr (⟨_, rfl, rfl, (by simp only [List.length_set, hl]), (by simp only [W0, Nat.reduceEqDiff, Nat.reduceLT, ↓reduceIte, hl, e4, e5, e6]), (by simp only [W0, Nat.reduceEqDiff, Nat.reduceLT, ↓reduceIte, hl, e4, e5, e6]), (by simp only [W0, Nat.reduceEqDiff, Nat.reduceLT, ↓reduceIte, hl, e4, e5, e6]), S55⟩)⟩
          · rw [if_neg c64] at wr93
            try simp only [↓WD, W0, evalOp, Nat.reduceEqDiff, Nat.reduceLT, ↓reduceIte, reduceCtorEq, hl, e0, e1, e7, e8, e18, e26]
            rw [AW_region]
            obtain ⟨c66, qc66, wr93⟩ := obind wr93
            have oc66 := idx_str (P := Try.prog) (k := .i64) Try.underlying9 qc66
            refine AE_joinR (fun e h' => h54 = h' ∧ e.length = 54 ∧ e.getD 0 .undef = .str s_ ∧ e.getD 1 .undef = .int .i64 at_ ∧ e.getD 7 .undef = .int .i64 s.1 ∧ e.getD 8 .undef = .int .i64 s.2 ∧ e.getD 9 .undef = .int .u8 c66 ∧ e.getD 18 .undef = .int .i64 s.2) (by
              simp only [↓WE, WA, WL, aop, ofValue, ofCell, isConst, abin, acall1, abuiltin, aun, AV.cells, AV.one, Nat.reduceAdd, Int.reduceLT, Int.reduceLE, ↓WD, W0, evalOp, Nat.reduceEqDiff, Nat.reduceLT, ↓reduceIte, reduceCtorEq, hl, e0, e1, e7, e8, e18, e26, oc66]
              exact ⟨rfl, (by simp only [List.length_set, hl]), (by simp only [W0, Nat.reduceEqDiff, Nat.reduceLT, ↓reduceIte, hl, e0, e1, e7, e8, e18, e26]), (by simp only [W0, Nat.reduceEqDiff, Nat.reduceLT, ↓reduceIte, hl, e0, e1, e7, e8, e18, e26]), (by simp only [W0, Nat.reduceEqDiff, Nat.reduceLT, ↓reduceIte, hl, e0, e1, e7, e8, e18, e26]), (by simp only [W0, Nat.reduceEqDiff, Nat.reduceLT, ↓reduceIte, hl, e0, e1, e7, e8, e18, e26]), (by simp only [W0, Nat.reduceEqDiff, Nat.reduceLT, ↓reduceIte, hl, e0, e1, e7, e8, e18, e26]), (by simp only [W0, Nat.reduceEqDiff, Nat.reduceLT, ↓reduceIte, hl, e0, e1, e7, e8, e18, e26])⟩) ?_
            rintro envg67 _ ⟨rfl, hl, e0, e1, e7, e8, e9, e18⟩
            try simp only [↓WD, W0, evalOp, Nat.reduceEqDiff, Nat.reduceLT, ↓reduceIte, reduceCtorEq, hl, e0, e1, e7, e8, e9, e18]
            rw [AW_region]
            have oc68 := fun g : AH => aconv_int (P := Try.prog) (h := g) (n := andI .u8 c66 127) (k' := .u8) Try.underlying5 Try.underlying3
            obtain ⟨y69, qy69, wr93⟩ := obind wr93
            have oy69 := shl_int (k := .i64) qy69
            refine AE_joinR (fun e h' => h54 = h' ∧ e.length = 54 ∧ e.getD 0 .undef = .str s_ ∧ e.getD 1 .undef = .int .i64 at_ ∧ e.getD 7 .undef = .int .i64 (orI .i64 s.1 y69) ∧ e.getD 8 .undef = .int .i64 s.2 ∧ e.getD 9 .undef = .int .u8 c66 ∧ e.getD 18 .undef = .int .i64 s.2) (by
              simp only [↓WE, WA, WL, aop, ofValue, ofCell, isConst, abin, acall1, abuiltin, aun, AV.cells, AV.one, Nat.reduceAdd, Int.reduceLT, Int.reduceLE, ↓WD, W0, evalOp, Nat.reduceEqDiff, Nat.reduceLT, ↓reduceIte, reduceCtorEq, hl, e0, e1, e7, e8, e9, e18, oc68, oy69]
              exact ⟨rfl, (by simp only [List.length_set, hl]), (by simp only [W0, Nat.reduceEqDiff, Nat.reduceLT, ↓reduceIte, hl, e0, e1, e7, e8, e9, e18]), (by simp only [W0, Nat.reduceEqDiff, Nat.reduceLT, ↓reduceIte, hl, e0, e1, e7, e8, e9, e18]), (by simp only [W0, Nat.reduceEqDiff, Nat.reduceLT, ↓reduceIte, hl, e0, e1, e7, e8, e9, e18]), (by simp only [W0, Nat.reduceEqDiff, Nat.reduceLT, ↓reduceIte, hl, e0, e1, e7, e8, e9, e18]), (by simp only [W0, Nat.reduceEqDiff, Nat.reduceLT, ↓reduceIte, hl, e0, e1, e7, e8, e9, e18]), (by simp only [W0, Nat.reduceEqDiff, Nat.reduceLT, ↓reduceIte, hl, e0, e1, e7, e8, e9, e18])⟩) ?_
            rintro envg70 _ ⟨rfl, hl, e0, e1, e7, e8, e9, e18⟩
            try simp only [↓WD, W0, evalOp, Nat.reduceEqDiff, Nat.reduceLT, ↓reduceIte, reduceCtorEq, hl, e0, e1, e7, e8, e9, e18]
            rw [AW_region]
            refine AE_joinR (fun e h' => h54 = h' ∧ e.length = 54 ∧ e.getD 0 .undef = .str s_ ∧ e.getD 1 .undef = .int .i64 at_ ∧ e.getD 7 .undef = .int .i64 (orI .i64 s.1 y69) ∧ e.getD 8 .undef = .int .i64 s.2 ∧ e.getD 9 .undef = .int .u8 c66 ∧ e.getD 18 .undef = .int .i64 s.2 ∧ e.getD 41 .undef = .bool (decide (c66 < 128))) (by
              simp only [↓WE, WA, WL, aop, ofValue, ofCell, isConst, abin, acall1, abuiltin, aun, AV.cells, AV.one, Nat.reduceAdd, Int.reduceLT, Int.reduceLE, ↓WD, W0, evalOp, Nat.reduceEqDiff, Nat.reduceLT, ↓reduceIte, reduceCtorEq, hl, e0, e1, e7, e8, e9, e18]
              exact ⟨rfl, (by simp only [List.length_set, hl]), (by simp only [W0, Nat.reduceEqDiff, Nat.reduceLT, ↓reduceIte, hl, e0, e1, e7, e8, e9, e18]), (by simp only [W0, Nat.reduceEqDiff, Nat.reduceLT, ↓reduceIte, hl, e0, e1, e7, e8, e9, e18]), (by simp only [W0, Nat.reduceEqDiff, Nat.reduceLT, ↓reduceIte, hl, e0, e1, e7, e8, e9, e18]), (by simp only [W0, Nat.reduceEqDiff, Nat.reduceLT, ↓reduceIte, hl, e0, e1, e7, e8, e9, e18]), (by simp only [W0, Nat.reduceEqDiff, Nat.reduceLT, ↓reduceIte, hl, e0, e1, e7, e8, e9, e18]), (by simp only [W0, Nat.reduceEqDiff, Nat.reduceLT, ↓reduceIte, hl, e0, e1, e7, e8, e9, e18]), (by simp only [W0, Nat.reduceEqDiff, Nat.reduceLT, ↓reduceIte, hl, e0, e1, e7, e8, e9, e18])⟩) ?_
            rintro envg71 _ ⟨rfl, hl, e0, e1, e7, e8, e9, e18, e41⟩
            try simp only [↓WD, W0, evalOp, Nat.reduceEqDiff, Nat.reduceLT, ↓reduceIte, reduceCtorEq, hl, e0, e1, e7, e8, e9, e18, e41]
            refine CondK_dec (fun c82 => ?_) (fun c82 => ?_)
            · rw [if_pos c82] at wr93
              try simp only [↓WD, W0, evalOp, Nat.reduceEqDiff, Nat.reduceLT, ↓reduceIte, reduceCtorEq, hl, e0, e1, e7, e8, e9, e18, e41]
              rw [AW_region]
              obtain ⟨j86, qj86, wr93⟩ := obind wr93
              refine AE_joinR (fun e h' => e.length = 54 ∧ e.getD 1 .undef = .int .i64 at_ ∧ e.getD 7 .undef = .int .i64 (orI .i64 s.1 y69) ∧ e.getD 8 .undef = .int .i64 s.2 ∧ e.getD 47 .undef = .bool j86 ∧ Sep h [] h' []) ?_ ?_
              · simp only [↓WE, WA, WL, aop, ofValue, ofCell, isConst, abin, acall1, abuiltin, aun, AV.cells, AV.one, Nat.reduceAdd, Int.reduceLT, Int.reduceLE, ↓WD, W0, evalOp, Nat.reduceEqDiff, Nat.reduceLT, ↓reduceIte, reduceCtorEq, hl, e0, e1, e7, e8, e9, e18, e41]
                refine GuardW_boo (fun c83 => ?_) (fun c83 => ?_)
                · rw [if_pos c83] at qj86
                  have d84 := c83
                  simp only [↓WE, WA, WL, aop, ofValue, ofCell, isConst, abin, acall1, abuiltin, aun, AV.cells, AV.one, Nat.reduceAdd, Int.reduceLT, Int.reduceLE, ↓WD, W0, evalOp, Nat.reduceEqDiff, Nat.reduceLT, ↓reduceIte, reduceCtorEq, hl, e0, e1, e7, e8, e9, e18, e41, d84]
                  obtain rfl := Option.some.inj qj86
                  exact ⟨(by simp only [List.length_set, hl]), (by simp only [W0, Nat.reduceEqDiff, Nat.reduceLT, ↓reduceIte, hl, e0, e1, e7, e8, e9, e18, e41]), (by simp only [W0, Nat.reduceEqDiff, Nat.reduceLT, ↓reduceIte, hl, e0, e1, e7, e8, e9, e18, e41]), (by simp only [W0, Nat.reduceEqDiff, Nat.reduceLT, ↓reduceIte, hl, e0, e1, e7, e8, e9, e18, e41]), (by simp only [W0, Nat.reduceEqDiff, Nat.reduceLT, ↓reduceIte, hl, e0, e1, e7, e8, e9, e18, e41]), S55⟩
                · rw [if_neg (nf c83)] at qj86
                  have d85 := c83
                  simp only [↓WE, WA, WL, aop, ofValue, ofCell, isConst, abin, acall1, abuiltin, aun, AV.cells, AV.one, Nat.reduceAdd, Int.reduceLT, Int.reduceLE, ↓WD, W0, evalOp, Nat.reduceEqDiff, Nat.reduceLT, ↓reduceIte, reduceCtorEq, hl, e0, e1, e7, e8, e9, e18, e41, d85]
                  obtain rfl := Option.some.inj qj86
                  exact ⟨(by simp only [List.length_set, hl]), (by simp only [W0, Nat.reduceEqDiff, Nat.reduceLT, ↓reduceIte, hl, e0, e1, e7, e8, e9, e18, e41]), (by simp only [W0, Nat.reduceEqDiff, Nat.reduceLT, ↓reduceIte, hl, e0, e1, e7, e8, e9, e18, e41]), (by simp only [W0, Nat.reduceEqDiff, Nat.reduceLT, ↓reduceIte, hl, e0, e1, e7, e8, e9, e18, e41]), (by simp only [W0, Nat.reduceEqDiff, Nat.reduceLT, ↓reduceIte, hl, e0, e1, e7, e8, e9, e18, e41]), S55⟩
              · rintro envj86 h88 ⟨hl, e1, e7, e8, e47, S87⟩
                try simp only [↓WD, W0, evalOp, Nat.reduceEqDiff, Nat.reduceLT, ↓reduceIte, reduceCtorEq, hl, e1, e7, e8, e47]
                refine CondK_boo (fun c90 => ?_) (fun c90 => ?_)
                · rw [if_pos c90] at wr93
                  try simp only [↓WD, W0, evalOp, Nat.reduceEqDiff, Nat.reduceLT, ↓reduceIte, reduceCtorEq, hl, e1, e7, e8, e47]
                  obtain rfl := Option.some.inj wr93
                  rw [KP_nil, QL_exit]
                  exact ⟨_, rfl, .inl ⟨_, rfl, rfl, (by simp only [List.length_set, hl]), S87⟩⟩
                · rw [if_neg (nf c90)] at wr93
                  try simp only [↓WD, W0, evalOp, Nat.reduceEqDiff, Nat.reduceLT, ↓reduceIte, reduceCtorEq, hl, e1, e7, e8, e47]
                  rw [AW_region]
                  refine AE_joinR (fun e h' => h88 = h' ∧ e.length = 54 ∧ e.getD 4 .undef = .int .i64 (orI .i64 s.1 y69) ∧ e.getD 5 .undef = .int .i64 (IntKind.i64.wrap ((IntKind.i64.wrap (at_ + s.2)) + 1)) ∧ e.getD 6 .undef = .int .i64 0) (by
                    simp only [↓WE, WA, WL, aop, ofValue, ofCell, isConst, abin, acall1, abuiltin, aun, AV.cells, AV.one, Nat.reduceAdd, Int.reduceLT, Int.reduceLE, ↓WD, W0, evalOp, Nat.reduceEqDiff, Nat.reduceLT, ↓reduceIte, reduceCtorEq, hl, e1, e7, e8, e47]
                    exact ⟨rfl, (by simp only [List.length_set, hl]), (by simp only [W0, Nat.reduceEqDiff, Nat.reduceLT, ↓reduceIte, hl, e1, e7, e8, e47]), (by simp only [W0, Nat.reduceEqDiff, Nat.reduceLT, ↓reduceIte, hl, e1, e7, e8, e47]), (by simp only [W0, Nat.reduceEqDiff, Nat.reduceLT, ↓reduceIte, hl, e1, e7, e8, e47])⟩) ?_
                  rintro envg91 _ ⟨rfl, hl, e4, e5, e6⟩
                  try simp only [↓WD, W0, evalOp, Nat.reduceEqDiff, Nat.reduceLT, ↓reduceIte, reduceCtorEq, hl, e4, e5, e6]
                  obtain rfl := Option.some.inj wr93
                  rw [KP_nil, QL_ret]
                  exact ⟨_, rfl, .inr (⟨_, rfl, rfl, (by simp only [List.length_set, hl]), (by simp only [W0, Nat.reduceEqDiff, Nat.reduceLT, ↓reduceIte, hl, e4, e5, e6]), (by simp only [W0, Nat.reduceEqDiff, Nat.reduceLT, ↓reduceIte, hl, e4, e5, e6]), (by simp only [W0, Nat.reduceEqDiff, Nat.reduceLT, ↓reduceIte, hl, e4, e5, e6]), S87⟩)⟩
            · rw [if_neg c82] at wr93
              try simp only [↓WD, W0, evalOp, Nat.reduceEqDiff, Nat.reduceLT, ↓reduceIte, reduceCtorEq, hl, e0, e1, e7, e8, e9, e18, e41]
              rw [AW_region]
              refine AE_joinR (fun e h' => h54 = h' ∧ e.length = 54 ∧ e.getD 0 .undef = .str s_ ∧ e.getD 1 .undef = .int .i64 at_ ∧ e.getD 7 .undef = .int .i64 (orI .i64 s.1 y69) ∧ e.getD 18 .undef = .int .i64 (IntKind.i64.wrap (s.2 + 1))) (by
                simp only [↓WE, WA, WL, aop, ofValue, ofCell, isConst, abin, acall1, abuiltin, aun, AV.cells, AV.one, Nat.reduceAdd, Int.reduceLT, Int.reduceLE, ↓WD, W0, evalOp, Nat.reduceEqDiff, Nat.reduceLT, ↓reduceIte, reduceCtorEq, hl, e0, e1, e7, e8, e9, e18, e41]
                exact ⟨rfl, (by simp only [List.length_set, hl]), (by simp only [W0, Nat.reduceEqDiff, Nat.reduceLT, ↓reduceIte, hl, e0, e1, e7, e8, e9, e18, e41]), (by simp only [W0, Nat.reduceEqDiff, Nat.reduceLT, ↓reduceIte, hl, e0, e1, e7, e8, e9, e18, e41]), (by simp only [W0, Nat.reduceEqDiff, Nat.reduceLT, ↓reduceIte, hl, e0, e1, e7, e8, e9, e18, e41]), (by simp only [W0, Nat.reduceEqDiff, Nat.reduceLT, ↓reduceIte, hl, e0, e1, e7, e8, e9, e18, e41])⟩) ?_
              rintro envg92 _ ⟨rfl, hl, e0, e1, e7, e18⟩
              try simp only [↓WD, W0, evalOp, Nat.reduceEqDiff, Nat.reduceLT, ↓reduceIte, reduceCtorEq, hl, e0, e1, e7, e18]
              obtain rfl := Option.some.inj wr93
              rw [KP_nil, QL_normal]
              exact ⟨_, rfl, (by simp only [List.length_set, hl]), (by simp only [W0, Nat.reduceEqDiff, Nat.reduceLT, ↓reduceIte, hl, e0, e1, e7, e18]), (by simp only [W0, Nat.reduceEqDiff, Nat.reduceLT, ↓reduceIte, hl, e0, e1, e7, e18]), (by simp only [W0, Nat.reduceEqDiff, Nat.reduceLT, ↓reduceIte, hl, e0, e1, e7, e18]), (by simp only [W0, Nat.reduceEqDiff, Nat.reduceLT, ↓reduceIte, hl, e0, e1, e7, e18]), S55⟩
        · rw [if_neg c58] at wr93
          try simp only [↓WD, W0, evalOp, Nat.reduceEqDiff, Nat.reduceLT, ↓reduceIte, reduceCtorEq, hl, e0, e1, e7, e18, e19]
          obtain rfl := Option.some.inj wr93
          rw [KP_nil, QL_exit]
          exact ⟨_, rfl, .inl ⟨_, rfl, rfl, (by simp only [List.length_set, hl]), S55⟩⟩
      · exact ⟨(by simp only [List.length_set, hl]), (by simp only [W0, Nat.reduceEqDiff, Nat.reduceLT, ↓reduceIte, hl, e0, e1, e7, e18]), (by simp only [W0, Nat.reduceEqDiff, Nat.reduceLT, ↓reduceIte, hl, e0, e1, e7, e18]), (by simp only [W0, Nat.reduceEqDiff, Nat.reduceLT, ↓reduceIte, hl, e0, e1, e7, e18]), (by simp only [W0, Nat.reduceEqDiff, Nat.reduceLT, ↓reduceIte, hl, e0, e1, e7, e18]), S7⟩
      · intro x envr93 h95 hk
        rcases hk with ⟨t94, rfl, rfl, hl, S96⟩ | ⟨t97, rfl, rfl, hl, e4, e5, e6, S99⟩
        · skip
          rw [sumK_inl] at hF
          try simp only [↓WD, W0, evalOp, Nat.reduceEqDiff, Nat.reduceLT, ↓reduceIte, reduceCtorEq, hl]
          rw [AW_region]
          refine AE_joinR (fun e h' => h95 = h' ∧ e.length = 54 ∧ e.getD 4 .undef = .int .i64 0 ∧ e.getD 5 .undef = .int .i64 0 ∧ e.getD 6 .undef = .int .i64 2) (by
            simp only [↓WE, WA, WL, aop, ofValue, ofCell, isConst, abin, acall1, abuiltin, aun, AV.cells, AV.one, Nat.reduceAdd, Int.reduceLT, Int.reduceLE, ↓WD, W0, evalOp, Nat.reduceEqDiff, Nat.reduceLT, ↓reduceIte, reduceCtorEq, hl]
            exact ⟨rfl, (by simp only [List.length_set, hl]), (by simp only [W0, Nat.reduceEqDiff, Nat.reduceLT, ↓reduceIte, hl]), (by simp only [W0, Nat.reduceEqDiff, Nat.reduceLT, ↓reduceIte, hl]), (by simp only [W0, Nat.reduceEqDiff, Nat.reduceLT, ↓reduceIte, hl])⟩) ?_
          rintro envg100 _ ⟨rfl, hl, e4, e5, e6⟩
          try simp only [↓WD, W0, evalOp, Nat.reduceEqDiff, Nat.reduceLT, ↓reduceIte, reduceCtorEq, hl, e4, e5, e6]
          refine KP_ret (vs := [.int .i64 0, .int .i64 0, .int .i64 2]) (by simp only [aresults, aresult, gs, List.length_set, Nat.reduceEqDiff, Nat.reduceLT, ↓reduceIte, hl, e4, e5, e6]) ?_
          obtain rfl := Option.some.inj hF
          exact rfl
        · skip
          rw [sumK_inr] at hF
          try simp only [↓WD, W0, evalOp, Nat.reduceEqDiff, Nat.reduceLT, ↓reduceIte, reduceCtorEq, hl, e4, e5, e6]
          refine KP_ret (vs := [.int .i64 t97.1, .int .i64 t97.2.1, .int .i64 t97.2.2]) (by simp only [aresults, aresult, gs, List.length_set, Nat.reduceEqDiff, Nat.reduceLT, ↓reduceIte, hl, e4, e5, e6]) ?_
          obtain rfl := Option.some.inj hF
          exact rfl
set_option maxRecDepth 100000 in
set_option maxHeartbeats 4000000 in
theorem W_delta_reader_next {K : PureK} (k40 : K 40 = some kf_40) (n67 : K 67 = none) (m : Nat) (hm : NF + 1 ≤ m) (h : AH) (ir_ : Nat) (r_ : Gdelta_reader) (hgr_ : h.get ir_ = some (.cells [.str r_.xs, .int .i64 r_.xat, .int .i64 r_.xe] true 0 (some (113, true)))) {r : Gdelta_reader × Int} (hF : F_delta_reader_next r_ = some r) :
    AR (acall Try.prog (hooksOf K) (drawnOf Try.prog (tabOf K)) m 67 [.ptr ir_ 0] h) (fun v h' => v = .int .i64 r.2 ∧ Sep h [ir_] h' [.blk ir_ [.str r.1.xs, .int .i64 r.1.xat, .int .i64 r.1.xe] 113]) := by
  obtain ⟨m, rfl⟩ : ∃ k, m = k + 1 := ⟨m - 1, by omega⟩
  refine AR_call (hooksOf_none n67) Try.func67 rfl _ _ fun env hl he => ?_
  have e0 := he 0
  simp only [List.getD_cons_zero, List.getD_cons_succ] at e0
  simp only [Try.f67] at hl ⊢
  simp only [List.length_cons, List.length_nil, Nat.reduceAdd, Nat.reduceSub] at hl
  clear he
  have S0 : Sep h [ir_] h [.blk ir_ [.str r_.xs, .int .i64 r_.xat, .int .i64 r_.xe] 113] := Sep.lend hgr_
  rw [F_delta_reader_next] at hF
  try simp only [↓WD, W0, evalOp, Nat.reduceEqDiff, Nat.reduceLT, ↓reduceIte, reduceCtorEq, hl, e0]
  rw [AW_region]
  refine AE_joinR (fun e h' => h = h' ∧ e.length = 35 ∧ e.getD 0 .undef = .ptr ir_ 0) (by
    simp only [↓WE, WA, WL, aop, ofValue, ofCell, isConst, abin, acall1, abuiltin, aun, AV.cells, AV.one, Nat.reduceAdd, Int.reduceLT, Int.reduceLE, ↓WD, W0, evalOp, Nat.reduceEqDiff, Nat.reduceLT, ↓reduceIte, reduceCtorEq, hl, e0]
    exact ⟨rfl, (by simp only [List.length_set, hl]), (by simp only [W0, Nat.reduceEqDiff, Nat.reduceLT, ↓reduceIte, hl, e0])⟩) ?_
  rintro envg1 _ ⟨rfl, hl, e0⟩
  try simp only [↓WD, W0, evalOp, Nat.reduceEqDiff, Nat.reduceLT, ↓reduceIte, reduceCtorEq, hl, e0]
  rw [AW_region]
  have ol2 := S0.load (P := Try.prog) 0 rfl (t := 26) (off := 2) (v := .int .i64 r_.xe) (by simp only [apart, ag_26, sz_26]; rfl)
  refine AE_joinR (fun e h' => h = h' ∧ e.length = 35 ∧ e.getD 0 .undef = .ptr ir_ 0 ∧ e.getD 10 .undef = .bool (r_.xe != 0)) (by
    simp only [↓WE, WA, WL, aop, ofValue, ofCell, isConst, abin, acall1, abuiltin, aun, AV.cells, AV.one, Nat.reduceAdd, Int.reduceLT, Int.reduceLE, ↓WD, W0, evalOp, Nat.reduceEqDiff, Nat.reduceLT, ↓reduceIte, reduceCtorEq, hl, e0, fa_113_2, ol2]
    exact ⟨rfl, (by simp only [List.length_set, hl]), (by simp only [W0, Nat.reduceEqDiff, Nat.reduceLT, ↓reduceIte, hl, e0]), (by simp only [W0, Nat.reduceEqDiff, Nat.reduceLT, ↓reduceIte, hl, e0])⟩) ?_
  rintro envg3 _ ⟨rfl, hl, e0, e10⟩
  try simp only [↓WD, W0, evalOp, Nat.reduceEqDiff, Nat.reduceLT, ↓reduceIte, reduceCtorEq, hl, e0, e10]
  refine CondK_boo (fun c6 => ?_) (fun c6 => ?_)
  · rw [if_pos c6] at hF
    try simp only [↓WD, W0, evalOp, Nat.reduceEqDiff, Nat.reduceLT, ↓reduceIte, reduceCtorEq, hl, e0, e10]
    rw [AW_region]
    refine AE_joinR (fun e h' => h = h' ∧ e.length = 35 ∧ e.getD 2 .undef = .int .i64 0) (by
      simp only [↓WE, WA, WL, aop, ofValue, ofCell, isConst, abin, acall1, abuiltin, aun, AV.cells, AV.one, Nat.reduceAdd, Int.reduceLT, Int.reduceLE, ↓WD, W0, evalOp, Nat.reduceEqDiff, Nat.reduceLT, ↓reduceIte, reduceCtorEq, hl, e0, e10]
      exact ⟨rfl, (by simp only [List.length_set, hl]), (by simp only [W0, Nat.reduceEqDiff, Nat.reduceLT, ↓reduceIte, hl, e0, e10])⟩) ?_
    rintro envg7 _ ⟨rfl, hl, e2⟩
    try simp only [↓WD, W0, evalOp, Nat.reduceEqDiff, Nat.reduceLT, ↓reduceIte, reduceCtorEq, hl, e2]
    refine KP_ret (vs := [.int .i64 0]) (by simp only [aresults, aresult, gs, List.length_set, Nat.reduceEqDiff, Nat.reduceLT, ↓reduceIte, hl, e2]) ?_
    obtain rfl := Option.some.inj hF
    exact ⟨rfl, S0⟩
  · rw [if_neg (nf c6)] at hF
    try simp only [↓WD, W0, evalOp, Nat.reduceEqDiff, Nat.reduceLT, ↓reduceIte, reduceCtorEq, hl, e0, e10]
    rw [AW_drawn, AE_drawnK (Ksub.cons k40 Ksub.nil) (by kernel_rfl)]
    have ol8 := S0.load (P := Try.prog) 0 rfl (t := 9) (off := 0) (v := .str r_.xs) (by simp only [apart, ag_9, sz_9]; rfl)
    have ol9 := S0.load (P := Try.prog) 0 rfl (t := 3) (off := 1) (v := .int .i64 r_.xat) (by simp only [apart, ag_3, sz_3]; rfl)
    obtain ⟨y10, qy10, hF⟩ := obind hF
    have og11 := fun (cf : CallF) (g : AH) => tab_hook (cf := cf) k40 (args := [.str r_.xs, .int .i64 r_.xat]) (v := .tup [.int .i64 y10.1, .int .i64 y10.2.1, .int .i64 y10.2.2]) ((kf_40_eq r_.xs r_.xat).trans (by rw [qy10]; rfl)) g
    refine AE_joinR (fun e h' => h = h' ∧ e.length = 35 ∧ e.getD 0 .undef = .ptr ir_ 0 ∧ e.getD 3 .undef = .int .i64 y10.1 ∧ e.getD 4 .undef = .int .i64 y10.2.1 ∧ e.getD 5 .undef = .int .i64 y10.2.2) (by
      simp only [↓WE, WA, WL, aop, ofValue, ofCell, isConst, abin, acall1, abuiltin, aun, AV.cells, AV.one, Nat.reduceAdd, Int.reduceLT, Int.reduceLE, ↓WD, W0, evalOp, Nat.reduceEqDiff, Nat.reduceLT, ↓reduceIte, reduceCtorEq, hl, e0, e10, fa_113_0, ol8, fa_113_1, ol9, og11]
      exact ⟨rfl, (by simp only [List.length_set, hl]), (by simp only [W0, Nat.reduceEqDiff, Nat.reduceLT, ↓reduceIte, hl, e0, e10]), (by simp only [W0, Nat.reduceEqDiff, Nat.reduceLT, ↓reduceIte, hl, e0, e10]), (by simp only [W0, Nat.reduceEqDiff, Nat.reduceLT, ↓reduceIte, hl, e0, e10]), (by simp only [W0, Nat.reduceEqDiff, Nat.reduceLT, ↓reduceIte, hl, e0, e10])⟩) ?_
    rintro envg12 _ ⟨rfl, hl, e0, e3, e4, e5⟩
    try simp only [↓WD, W0, evalOp, Nat.reduceEqDiff, Nat.reduceLT, ↓reduceIte, reduceCtorEq, hl, e0, e3, e4, e5]
    rw [AW_region]
    obtain ⟨h13, os14, S15⟩ := S0.store (P := Try.prog) 0 rfl (t := 26) (off := 2) (v := .int .i64 y10.2.2) (c' := [.str r_.xs, .int .i64 r_.xat, .int .i64 y10.2.2]) rfl sz_26 rfl (by simp) rfl
    have S16 : Sep h [ir_] h13 [.blk ir_ [.str r_.xs, .int .i64 r_.xat, .int .i64 y10.2.2] 113] := S15
    refine AE_joinR (fun e h' => h13 = h' ∧ e.length = 35 ∧ e.getD 0 .undef = .ptr ir_ 0 ∧ e.getD 3 .undef = .int .i64 y10.1 ∧ e.getD 4 .undef = .int .i64 y10.2.1 ∧ e.getD 5 .undef = .int .i64 y10.2.2) (by
      simp only [↓WE, WA, WL, aop, ofValue, ofCell, isConst, abin, acall1, abuiltin, aun, AV.cells, AV.one, Nat.reduceAdd, Int.reduceLT, Int.reduceLE, ↓WD, W0, evalOp, Nat.reduceEqDiff, Nat.reduceLT, ↓reduceIte, reduceCtorEq, hl, e0, e3, e4, e5, fa_113_2, os14]
      exact ⟨rfl, (by simp only [List.length_set, hl]), (by simp only [W0, Nat.reduceEqDiff, Nat.reduceLT, ↓reduceIte, hl, e0, e3, e4, e5]), (by simp only [W0, Nat.reduceEqDiff, Nat.reduceLT, ↓reduceIte, hl, e0, e3, e4, e5]), (by simp only [W0, Nat.reduceEqDiff, Nat.reduceLT, ↓reduceIte, hl, e0, e3, e4, e5]), (by simp only [W0, Nat.reduceEqDiff, Nat.reduceLT, ↓reduceIte, hl, e0, e3, e4, e5])⟩) ?_
    rintro envg17 _ ⟨rfl, hl, e0, e3, e4, e5⟩
    try simp only [↓WD, W0, evalOp, Nat.reduceEqDiff, Nat.reduceLT, ↓reduceIte, reduceCtorEq, hl, e0, e3, e4, e5]
    rw [AW_region]
    refine AE_joinR (fun e h' => h13 = h' ∧ e.length = 35 ∧ e.getD 0 .undef = .ptr ir_ 0 ∧ e.getD 3 .undef = .int .i64 y10.1 ∧ e.getD 4 .undef = .int .i64 y10.2.1 ∧ e.getD 29 .undef = .bool (y10.2.2 == 0)) (by
      simp only [↓WE, WA, WL, aop, ofValue, ofCell, isConst, abin, acall1, abuiltin, aun, AV.cells, AV.one, Nat.reduceAdd, Int.reduceLT, Int.reduceLE, ↓WD, W0, evalOp, Nat.reduceEqDiff, Nat.reduceLT, ↓reduceIte, reduceCtorEq, hl, e0, e3, e4, e5]
      exact ⟨rfl, (by simp only [List.length_set, hl]), (by simp only [W0, Nat.reduceEqDiff, Nat.reduceLT, ↓reduceIte, hl, e0, e3, e4, e5]), (by simp only [W0, Nat.reduceEqDiff, Nat.reduceLT, ↓reduceIte, hl, e0, e3, e4, e5]), (by simp only [W0, Nat.reduceEqDiff, Nat.reduceLT, ↓reduceIte, hl, e0, e3, e4, e5]), (by simp only [W0, Nat.reduceEqDiff, Nat.reduceLT, ↓reduceIte, hl, e0, e3, e4, e5])⟩) ?_
    rintro envg18 _ ⟨rfl, hl, e0, e3, e4, e29⟩
    try simp only [↓WD, W0, evalOp, Nat.reduceEqDiff, Nat.reduceLT, ↓reduceIte, reduceCtorEq, hl, e0, e3, e4, e29]
    obtain ⟨j25, qj25, hF⟩ := obind hF
    refine CondK_join (fun e h' => e.length = 35 ∧ e.getD 3 .undef = .int .i64 y10.1 ∧ Sep h [ir_] h' [.blk ir_ [.str r_.xs, .int .i64 j25, .int .i64 y10.2.2] 113]) ?_ ?_
    · refine CondK_boo (fun c19 => ?_) (fun c19 => ?_)
      · rw [if_pos c19] at qj25
        try simp only [↓WD, W0, evalOp, Nat.reduceEqDiff, Nat.reduceLT, ↓reduceIte, reduceCtorEq, hl, e0, e3, e4, e29]
        rw [AW_region]
        obtain ⟨h20, os21, S22⟩ := S16.store (P := Try.prog) 0 rfl (t := 3) (off := 1) (v := .int .i64 y10.2.1) (c' := [.str r_.xs, .int .i64 y10.2.1, .int .i64 y10.2.2]) rfl sz_3 rfl (by simp) rfl
        have S23 : Sep h [ir_] h20 [.blk ir_ [.str r_.xs, .int .i64 y10.2.1, .int .i64 y10.2.2] 113] := S22
        refine AE_joinR (fun e h' => h20 = h' ∧ e.length = 35 ∧ e.getD 3 .undef = .int .i64 y10.1) (by
          simp only [↓WE, WA, WL, aop, ofValue, ofCell, isConst, abin, acall1, abuiltin, aun, AV.cells, AV.one, Nat.reduceAdd, Int.reduceLT, Int.reduceLE, ↓WD, W0, evalOp, Nat.reduceEqDiff, Nat.reduceLT, ↓reduceIte, reduceCtorEq, hl, e0, e3, e4, e29, fa_113_1, os21]
          exact ⟨rfl, (by simp only [List.length_set, hl]), (by simp only [W0, Nat.reduceEqDiff, Nat.reduceLT, ↓reduceIte, hl, e0, e3, e4, e29])⟩) ?_
        rintro envg24 _ ⟨rfl, hl, e3⟩
        try simp only [↓WD, W0, evalOp, Nat.reduceEqDiff, Nat.reduceLT, ↓reduceIte, reduceCtorEq, hl, e3]
        rw [KP_nil, KJ_normal]
        obtain rfl := Option.some.inj qj25
        exact ⟨(by simp only [List.length_set, hl]), (by simp only [W0, Nat.reduceEqDiff, Nat.reduceLT, ↓reduceIte, hl, e3]), S23⟩
      · rw [if_neg (nf c19)] at qj25
        try simp only [↓WD, W0, evalOp, Nat.reduceEqDiff, Nat.reduceLT, ↓reduceIte, reduceCtorEq, hl, e0, e3, e4, e29]
        rw [KP_nil, KJ_normal]
        obtain rfl := Option.some.inj qj25
        exact ⟨(by simp only [List.length_set, hl]), (by simp only [W0, Nat.reduceEqDiff, Nat.reduceLT, ↓reduceIte, hl, e0, e3, e4, e29]), S16⟩
    · rintro envj25 h27 ⟨hl, e3, S26⟩
      try simp only [↓WD, W0, evalOp, Nat.reduceEqDiff, Nat.reduceLT, ↓reduceIte, reduceCtorEq, hl, e3]
      rw [AW_region]
      refine AE_joinR (fun e h' => h27 = h' ∧ e.length = 35 ∧ e.getD 2 .undef = .int .i64 y10.1) (by
        simp only [↓WE, WA, WL, aop, ofValue, ofCell, isConst, abin, acall1, abuiltin, aun, AV.cells, AV.one, Nat.reduceAdd, Int.reduceLT, Int.reduceLE, ↓WD, W0, evalOp, Nat.reduceEqDiff, Nat.reduceLT, ↓reduceIte, reduceCtorEq, hl, e3]
        exact ⟨rfl, (by simp only [List.length_set, hl]), (by simp only [W0, Nat.reduceEqDiff, Nat.reduceLT, ↓reduceIte, hl, e3])⟩) ?_
      rintro envg28 _ ⟨rfl, hl, e2⟩
      try simp only [↓WD, W0, evalOp, Nat.reduceEqDiff, Nat.reduceLT, ↓reduceIte, reduceCtorEq, hl, e2]
      refine KP_ret (vs := [.int .i64 y10.1]) (by simp only [aresults, aresult, gs, List.length_set, Nat.reduceEqDiff, Nat.reduceLT, ↓reduceIte, hl, e2]) ?_
      obtain rfl := Option.some.inj hF
      exact ⟨rfl, S26⟩
end Go.Proofs.YtikkpmmhejjpaaaM
