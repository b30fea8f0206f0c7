/- The abstract machine computes what the plain functions say: printed by lift.py. -/
import Derived.Test.YtobhmahlenjheaaDGW2
import Derived.KernelRfl
set_option linter.unusedSimpArgs false
set_option linter.unusedVariables false
namespace Go.Proofs.YtobhmahlenjheaaM
open Go Go.RowKit
set_option maxHeartbeats 4000000
set_option maxRecDepth 100000
theorem W_digest_writer_node {K : PureK} (k16 : K 16 = some kf_16) (k90 : K 90 = some kf_90) (k116 : K 116 = some kf_116) (k128 : K 128 = some hb77) (n66 : K 66 = none) (n68 : K 68 = none) (n106 : K 106 = none) (n118 : K 118 = none) (n91 : K 91 = none) (m : Nat) (hm : NF + 5 ≤ m) (h : AH) (iw : Nat) (p0w : AV) (v0w : AV) (w : Gdigest_writer) (hokw : ∀ e ∈ ([.blk iw [p0w, v0w] 135, .buf iw 0 p0w v0w 5 w.xBuilder] : List Ent), e.ok h) (hndw : (([.blk iw [p0w, v0w] 135, .buf iw 0 p0w v0w 5 w.xBuilder] : List Ent).flatMap Ent.ids).Nodup) (n_ : Gapi_Node) {r : Gdigest_writer} (hF : F_digest_writer_node w n_ = some r) :
    AR (acall Try.prog (hooksOf K) (drawnOf Try.prog (tabOf K)) m 91 [.ptr iw 0, .agg [.str n_.xPath, .bool n_.xDir, .str n_.xData, .int .i64 n_.xMode, .int .i64 n_.xTime]] h) (fun v h' => ∃ xp0w : AV, ∃ xv0w : AV, v = .tup [] ∧ Sep h (([.blk iw [p0w, v0w] 135, .buf iw 0 p0w v0w 5 w.xBuilder] : List Ent).flatMap Ent.ids) h' [.blk iw [xp0w, xv0w] 135, .buf iw 0 xp0w xv0w 5 r.xBuilder]) := by
  obtain ⟨m, rfl⟩ : ∃ k, m = k + 1 := ⟨m - 1, by omega⟩
  refine AR_call (hooksOf_none n91) Try.func91 rfl _ _ fun env hl he => ?_
  have e0 := he 0
  have e1 := he 1
  simp only [List.getD_cons_zero, List.getD_cons_succ] at e0 e1
  simp only [Try.f91] at hl ⊢
  simp only [List.length_cons, List.length_nil, Nat.reduceAdd, Nat.reduceSub] at hl
  clear he
  have S0 : Sep h (([.blk iw [p0w, v0w] 135, .buf iw 0 p0w v0w 5 w.xBuilder] : List Ent).flatMap Ent.ids) h [.blk iw [p0w, v0w] 135, .buf iw 0 p0w v0w 5 w.xBuilder] := Sep.lendN hokw hndw
  rw [F_digest_writer_node] at hF
  try simp only [↓WD, W0, evalOp, Nat.reduceEqDiff, Nat.reduceLT, ↓reduceIte, reduceCtorEq, hl, e0, e1]
  rw [AW_region]
  obtain ⟨i1, h2, oa3, S4⟩ := S0.alloc 75 [.str n_.xPath, .bool n_.xDir, .str n_.xData, .int .i64 n_.xMode, .int .i64 n_.xTime]
  have S6 : Sep h (([.blk iw [p0w, v0w] 135, .buf iw 0 p0w v0w 5 w.xBuilder] : List Ent).flatMap Ent.ids) h2 [.blk iw [p0w, v0w] 135, .buf iw 0 p0w v0w 5 w.xBuilder, .blk i1 [.str n_.xPath, .bool n_.xDir, .str n_.xData, .int .i64 n_.xMode, .int .i64 n_.xTime] 75] := S4
  refine AE_joinR (fun e h' => h2 = h' ∧ e.length = 39 ∧ e.getD 0 .undef = .ptr iw 0 ∧ e.getD 3 .undef = .ptr i1 0) (by
    simp only [↓WE, WA, WL, aop, ofValue, ofCell, isConst, abin, acall1, abuiltin, aun, AV.cells, AV.one, Nat.reduceAdd, Int.reduceLT, Int.reduceLE, ↓WD, W0, evalOp, Nat.reduceEqDiff, Nat.reduceLT, ↓reduceIte, reduceCtorEq, hl, e0, e1, oa3]
    refine ⟨rfl, ?_, ?_, ?_⟩ <;> simp only [List.length_set, W0, Nat.reduceEqDiff, Nat.reduceLT, ↓reduceIte, hl, e0, e1]) ?_
  rintro envg7 _ ⟨rfl, hl, e0, e3⟩
  try simp only [↓WD, W0, evalOp, Nat.reduceEqDiff, Nat.reduceLT, ↓reduceIte, reduceCtorEq, hl, e0, e3]
  rw [AW_region]
  have ol8 := S6.load (P := Try.prog) 2 rfl (t := 4) (off := 1) (v := .bool n_.xDir) (by simp only [apart, ag_4, sz_4]; rfl)
  refine AE_joinR (fun e h' => h2 = h' ∧ e.length = 39 ∧ e.getD 0 .undef = .ptr iw 0 ∧ e.getD 3 .undef = .ptr i1 0 ∧ e.getD 5 .undef = .bool n_.xDir) (by
    simp only [↓WE, WA, WL, aop, ofValue, ofCell, isConst, abin, acall1, abuiltin, aun, AV.cells, AV.one, Nat.reduceAdd, Int.reduceLT, Int.reduceLE, ↓WD, W0, evalOp, Nat.reduceEqDiff, Nat.reduceLT, ↓reduceIte, reduceCtorEq, hl, e0, e3, fa_75_1, ol8]
    refine ⟨rfl, ?_, ?_, ?_, ?_⟩ <;> simp only [List.length_set, W0, Nat.reduceEqDiff, Nat.reduceLT, ↓reduceIte, hl, e0, e3]) ?_
  rintro envg9 _ ⟨rfl, hl, e0, e3, e5⟩
  try simp only [↓WD, W0, evalOp, Nat.reduceEqDiff, Nat.reduceLT, ↓reduceIte, reduceCtorEq, hl, e0, e3, e5]
  obtain ⟨j33, qj33, hF⟩ := obind hF
  refine CondK_join (fun e h' => ∃ (p34 : AV), ∃ (u35 : AV), e.length = 39 ∧ e.getD 0 .undef = .ptr iw 0 ∧ e.getD 3 .undef = .ptr i1 0 ∧ Sep h (([.blk iw [p0w, v0w] 135, .buf iw 0 p0w v0w 5 w.xBuilder] : List Ent).flatMap Ent.ids) h' [.blk i1 [.str n_.xPath, .bool n_.xDir, .str n_.xData, .int .i64 n_.xMode, .int .i64 n_.xTime] 75, .blk iw [p34, u35] 135, .buf iw 0 p34 u35 5 j33]) ?_ ?_
  · refine CondK_boo (fun c10 => ?_) (fun c10 => ?_)
    · rw [if_pos c10] at qj33
      try simp only [↓WD, W0, evalOp, Nat.reduceEqDiff, Nat.reduceLT, ↓reduceIte, reduceCtorEq, hl, e0, e3, e5]
      rw [AW_region]
      have S11 : Sep h (([.blk iw [p0w, v0w] 135, .buf iw 0 p0w v0w 5 w.xBuilder] : List Ent).flatMap Ent.ids) h2 ([.blk i1 [.str n_.xPath, .bool n_.xDir, .str n_.xData, .int .i64 n_.xMode, .int .i64 n_.xTime] 75] ++ [.blk iw ([] ++ p0w :: v0w :: []) 135, .buf iw 0 p0w v0w 5 w.xBuilder]) := S6.pick [2, 0, 1] (by decide) rfl
      obtain ⟨x12, qx12, qj33⟩ := obind qj33
      obtain ⟨b13, qb13, qj33⟩ := obind qj33
      obtain ⟨p14, u15, h16, ow19, S18⟩ := Sep.sbyte (T := tabOf K) (pre := []) (post := []) S11 bl_135_0 k128 n106 n68 qx12 qb13 m (by omega)
      have ow17 : acall Try.prog (hooksOf K) (drawnOf Try.prog (tabOf K)) m 68 [.ptr iw 0, .int .u8 100] h2 = some (.val .nilIface, h16) := ow19
      have S20 : Sep h (([.blk iw [p0w, v0w] 135, .buf iw 0 p0w v0w 5 w.xBuilder] : List Ent).flatMap Ent.ids) h16 [.blk i1 [.str n_.xPath, .bool n_.xDir, .str n_.xData, .int .i64 n_.xMode, .int .i64 n_.xTime] 75, .blk iw [p14, u15] 135, .buf iw 0 p14 u15 5 b13] := S18
      refine AE_joinR (fun e h' => h16 = h' ∧ e.length = 39 ∧ e.getD 0 .undef = .ptr iw 0 ∧ e.getD 3 .undef = .ptr i1 0) (by
        simp only [↓WE, WA, WL, aop, ofValue, ofCell, isConst, abin, acall1, abuiltin, aun, AV.cells, AV.one, Nat.reduceAdd, Int.reduceLT, Int.reduceLE, ↓WD, W0, evalOp, Nat.reduceEqDiff, Nat.reduceLT, ↓reduceIte, reduceCtorEq, hl, e0, e3, e5, fa_135_0, ow17]
        refine ⟨rfl, ?_, ?_, ?_⟩ <;> simp only [List.length_set, W0, Nat.reduceEqDiff, Nat.reduceLT, ↓reduceIte, hl, e0, e3, e5]) ?_
      rintro envg21 _ ⟨rfl, hl, e0, e3⟩
      try simp only [↓WD, W0, evalOp, Nat.reduceEqDiff, Nat.reduceLT, ↓reduceIte, reduceCtorEq, hl, e0, e3]
      rw [KP_nil, KJ_normal]
      obtain rfl := Option.some.inj qj33
      refine ⟨p14, u15, ?_, ?_, ?_, S20⟩ <;> simp only [List.length_set, W0, Nat.reduceEqDiff, Nat.reduceLT, ↓reduceIte, hl, e0, e3]
    · rw [if_neg (nf c10)] at qj33
      try simp only [↓WD, W0, evalOp, Nat.reduceEqDiff, Nat.reduceLT, ↓reduceIte, reduceCtorEq, hl, e0, e3, e5]
      rw [AW_region]
      have S22 : Sep h (([.blk iw [p0w, v0w] 135, .buf iw 0 p0w v0w 5 w.xBuilder] : List Ent).flatMap Ent.ids) h2 ([.blk i1 [.str n_.xPath, .bool n_.xDir, .str n_.xData, .int .i64 n_.xMode, .int .i64 n_.xTime] 75] ++ [.blk iw ([] ++ p0w :: v0w :: []) 135, .buf iw 0 p0w v0w 5 w.xBuilder]) := S6.pick [2, 0, 1] (by decide) rfl
      obtain ⟨x23, qx23, qj33⟩ := obind qj33
      obtain ⟨b24, qb24, qj33⟩ := obind qj33
      obtain ⟨p25, u26, h27, ow30, S29⟩ := Sep.sbyte (T := tabOf K) (pre := []) (post := []) S22 bl_135_0 k128 n106 n68 qx23 qb24 m (by omega)
      have ow28 : acall Try.prog (hooksOf K) (drawnOf Try.prog (tabOf K)) m 68 [.ptr iw 0, .int .u8 102] h2 = some (.val .nilIface, h27) := ow30
      have S31 : Sep h (([.blk iw [p0w, v0w] 135, .buf iw 0 p0w v0w 5 w.xBuilder] : List Ent).flatMap Ent.ids) h27 [.blk i1 [.str n_.xPath, .bool n_.xDir, .str n_.xData, .int .i64 n_.xMode, .int .i64 n_.xTime] 75, .blk iw [p25, u26] 135, .buf iw 0 p25 u26 5 b24] := S29
      refine AE_joinR (fun e h' => h27 = h' ∧ e.length = 39 ∧ e.getD 0 .undef = .ptr iw 0 ∧ e.getD 3 .undef = .ptr i1 0) (by
        simp only [↓WE, WA, WL, aop, ofValue, ofCell, isConst, abin, acall1, abuiltin, aun, AV.cells, AV.one, Nat.reduceAdd, Int.reduceLT, Int.reduceLE, ↓WD, W0, evalOp, Nat.reduceEqDiff, Nat.reduceLT, ↓reduceIte, reduceCtorEq, hl, e0, e3, e5, fa_135_0, ow28]
        refine ⟨rfl, ?_, ?_, ?_⟩ <;> simp only [List.length_set, W0, Nat.reduceEqDiff, Nat.reduceLT, ↓reduceIte, hl, e0, e3, e5]) ?_
      rintro envg32 _ ⟨rfl, hl, e0, e3⟩
      try simp only [↓WD, W0, evalOp, Nat.reduceEqDiff, Nat.reduceLT, ↓reduceIte, reduceCtorEq, hl, e0, e3]
      rw [KP_nil, KJ_normal]
      obtain rfl := Option.some.inj qj33
      refine ⟨p25, u26, ?_, ?_, ?_, S31⟩ <;> simp only [List.length_set, W0, Nat.reduceEqDiff, Nat.reduceLT, ↓reduceIte, hl, e0, e3]
  · rintro envj33 h37 ⟨p34, u35, hl, e0, e3, S36⟩
    try simp only [↓WD, W0, evalOp, Nat.reduceEqDiff, Nat.reduceLT, ↓reduceIte, reduceCtorEq, hl, e0, e3]
    rw [AW_region]
    have ol38 := S36.load (P := Try.prog) 0 rfl (t := 9) (off := 0) (v := .str n_.xPath) (by simp only [apart, ag_9, sz_9]; rfl)
    obtain ⟨y39, qy39, hF⟩ := obind hF
    have S41 : Sep h (([.blk iw [p0w, v0w] 135, .buf iw 0 p0w v0w 5 w.xBuilder] : List Ent).flatMap Ent.ids) h37 ([.blk i1 [.str n_.xPath, .bool n_.xDir, .str n_.xData, .int .i64 n_.xMode, .int .i64 n_.xTime] 75] ++ [.blk iw [p34, u35] 135, .buf iw 0 p34 u35 5 j33]) := S36.pick [0, 1, 2] (by decide) rfl
    obtain ⟨v45, h42, og40, zp0q44, zv0q44, rfl, S43⟩ := (W_digest_writer_path k90 k128 n66 n106 n118 m (by omega) h37 iw p34 u35 (⟨j33⟩ : Gdigest_writer) S41.okA S41.ndA n_.xPath qy39).out
    have S46 : Sep h (([.blk iw [p0w, v0w] 135, .buf iw 0 p0w v0w 5 w.xBuilder] : List Ent).flatMap Ent.ids) h42 [.blk i1 [.str n_.xPath, .bool n_.xDir, .str n_.xData, .int .i64 n_.xMode, .int .i64 n_.xTime] 75, .blk iw [zp0q44, zv0q44] 135, .buf iw 0 zp0q44 zv0q44 5 y39.xBuilder] := S41.callN S43
    refine AE_joinR (fun e h' => h42 = h' ∧ e.length = 39 ∧ e.getD 0 .undef = .ptr iw 0 ∧ e.getD 3 .undef = .ptr i1 0) (by
      simp only [↓WE, WA, WL, aop, ofValue, ofCell, isConst, abin, acall1, abuiltin, aun, AV.cells, AV.one, Nat.reduceAdd, Int.reduceLT, Int.reduceLE, ↓WD, W0, evalOp, Nat.reduceEqDiff, Nat.reduceLT, ↓reduceIte, reduceCtorEq, hl, e0, e3, fa_75_0, ol38, og40]
      refine ⟨rfl, ?_, ?_, ?_⟩ <;> simp only [List.length_set, W0, Nat.reduceEqDiff, Nat.reduceLT, ↓reduceIte, hl, e0, e3]) ?_
    rintro envg47 _ ⟨rfl, hl, e0, e3⟩
    try simp only [↓WD, W0, evalOp, Nat.reduceEqDiff, Nat.reduceLT, ↓reduceIte, reduceCtorEq, hl, e0, e3]
    rw [AW_drawn, AE_drawnK (Ksub.cons k16 (Ksub.cons k90 (Ksub.cons k116 (Ksub.cons k128 Ksub.nil)))) (by kernel_rfl)]
    have ol48 := S46.load (P := Try.prog) 0 rfl (t := 3) (off := 3) (v := .int .i64 n_.xMode) (by simp only [apart, ag_3, sz_3]; rfl)
    obtain ⟨y49, qy49, hF⟩ := obind hF
    have og50 := fun (cf : CallF) (g : AH) => tab_hook (cf := cf) k116 (args := [.int .i64 n_.xMode]) (v := .str y49) ((kf_116_eq n_.xMode).trans (by rw [qy49]; rfl)) g
    have ol51 := S46.load (P := Try.prog) 0 rfl (t := 3) (off := 4) (v := .int .i64 n_.xTime) (by simp only [apart, ag_3, sz_3]; rfl)
    obtain ⟨y52, qy52, hF⟩ := obind hF
    have og53 := fun (cf : CallF) (g : AH) => tab_hook (cf := cf) k90 (args := [.int .i64 n_.xTime]) (v := .str y52) ((kf_90_eq n_.xTime).trans (by rw [qy52]; rfl)) g
    obtain ⟨s54, qs54, hF⟩ := obind hF
    have os54 := cat_str qs54
    have S55 : Sep h (([.blk iw [p0w, v0w] 135, .buf iw 0 p0w v0w 5 w.xBuilder] : List Ent).flatMap Ent.ids) h42 ([.blk i1 [.str n_.xPath, .bool n_.xDir, .str n_.xData, .int .i64 n_.xMode, .int .i64 n_.xTime] 75] ++ [.blk iw ([] ++ zp0q44 :: zv0q44 :: []) 135, .buf iw 0 zp0q44 zv0q44 5 y39.xBuilder]) := S46.pick [0, 1, 2] (by decide) rfl
    obtain ⟨b56, qb56, hF⟩ := obind hF
    obtain ⟨p57, u58, h59, ow62, S61⟩ := Sep.swrite (T := tabOf K) (pre := []) (post := []) S55 bl_135_0 k128 n106 n66 qb56 m (by omega)
    have ow60 : acall Try.prog (hooksOf K) (drawnOf Try.prog (tabOf K)) m 66 [.ptr iw 0, .str s54] h42 = some (.tup [.int .i64 (s54.length : Int), .val .nilIface], h59) := ow62
    have S63 : Sep h (([.blk iw [p0w, v0w] 135, .buf iw 0 p0w v0w 5 w.xBuilder] : List Ent).flatMap Ent.ids) h59 [.blk i1 [.str n_.xPath, .bool n_.xDir, .str n_.xData, .int .i64 n_.xMode, .int .i64 n_.xTime] 75, .blk iw [p57, u58] 135, .buf iw 0 p57 u58 5 b56] := S61
    refine AE_joinR (fun e h' => h59 = h' ∧ e.length = 39 ∧ e.getD 0 .undef = .ptr iw 0 ∧ e.getD 3 .undef = .ptr i1 0) (by
      simp only [↓WE, WA, WL, aop, ofValue, ofCell, isConst, abin, acall1, abuiltin, aun, AV.cells, AV.one, Nat.reduceAdd, Int.reduceLT, Int.reduceLE, ↓WD, W0, evalOp, Nat.reduceEqDiff, Nat.reduceLT, ↓reduceIte, reduceCtorEq, hl, e0, e3, fa_135_0, fa_75_3, ol48, og50, fa_75_4, ol51, og53, os54, ow60, tab_none n66]
      refine ⟨rfl, ?_, ?_, ?_⟩ <;> simp only [List.length_set, W0, Nat.reduceEqDiff, Nat.reduceLT, ↓reduceIte, hl, e0, e3]) ?_
    rintro envg64 _ ⟨rfl, hl, e0, e3⟩
    try simp only [↓WD, W0, evalOp, Nat.reduceEqDiff, Nat.reduceLT, ↓reduceIte, reduceCtorEq, hl, e0, e3]
    rw [AW_region]
    have ol65 := S63.load (P := Try.prog) 0 rfl (t := 4) (off := 1) (v := .bool n_.xDir) (by simp only [apart, ag_4, sz_4]; rfl)
    refine AE_joinR (fun e h' => h59 = h' ∧ e.length = 39 ∧ e.getD 0 .undef = .ptr iw 0 ∧ e.getD 3 .undef = .ptr i1 0 ∧ e.getD 31 .undef = .bool !n_.xDir) (by
      simp only [↓WE, WA, WL, aop, ofValue, ofCell, isConst, abin, acall1, abuiltin, aun, AV.cells, AV.one, Nat.reduceAdd, Int.reduceLT, Int.reduceLE, ↓WD, W0, evalOp, Nat.reduceEqDiff, Nat.reduceLT, ↓reduceIte, reduceCtorEq, hl, e0, e3, fa_75_1, ol65]
      refine ⟨rfl, ?_, ?_, ?_, ?_⟩ <;> simp only [List.length_set, W0, Nat.reduceEqDiff, Nat.reduceLT, ↓reduceIte, hl, e0, e3]) ?_
    rintro envg66 _ ⟨rfl, hl, e0, e3, e31⟩
    try simp only [↓WD, W0, evalOp, Nat.reduceEqDiff, Nat.reduceLT, ↓reduceIte, reduceCtorEq, hl, e0, e3, e31]
    refine CondK_boo (fun c81 => ?_) (fun c81 => ?_)
    · rw [if_pos c81] at hF
      try simp only [↓WD, W0, evalOp, Nat.reduceEqDiff, Nat.reduceLT, ↓reduceIte, reduceCtorEq, hl, e0, e3, e31]
      rw [AW_drawn, AE_drawnK (Ksub.cons k16 (Ksub.cons k90 (Ksub.cons k116 (Ksub.cons k128 Ksub.nil)))) (by kernel_rfl)]
      have ol82 := S63.load (P := Try.prog) 0 rfl (t := 9) (off := 2) (v := .str n_.xData) (by simp only [apart, ag_9, sz_9]; rfl)
      obtain ⟨y83, qy83, hF⟩ := obind hF
      have og84 := fun (cf : CallF) (g : AH) => tab_hook (cf := cf) k16 (args := [.str n_.xData]) (v := .str y83) ((kf_16_eq n_.xData).trans (by rw [qy83]; rfl)) g
      have S85 : Sep h (([.blk iw [p0w, v0w] 135, .buf iw 0 p0w v0w 5 w.xBuilder] : List Ent).flatMap Ent.ids) h59 ([.blk i1 [.str n_.xPath, .bool n_.xDir, .str n_.xData, .int .i64 n_.xMode, .int .i64 n_.xTime] 75] ++ [.blk iw ([] ++ p57 :: u58 :: []) 135, .buf iw 0 p57 u58 5 b56]) := S63.pick [0, 1, 2] (by decide) rfl
      obtain ⟨b86, qb86, hF⟩ := obind hF
      obtain ⟨p87, u88, h89, ow92, S91⟩ := Sep.swrite (T := tabOf K) (pre := []) (post := []) S85 bl_135_0 k128 n106 n66 qb86 m (by omega)
      have ow90 : acall Try.prog (hooksOf K) (drawnOf Try.prog (tabOf K)) m 66 [.ptr iw 0, .str y83] h59 = some (.tup [.int .i64 (y83.length : Int), .val .nilIface], h89) := ow92
      have S93 : Sep h (([.blk iw [p0w, v0w] 135, .buf iw 0 p0w v0w 5 w.xBuilder] : List Ent).flatMap Ent.ids) h89 [.blk i1 [.str n_.xPath, .bool n_.xDir, .str n_.xData, .int .i64 n_.xMode, .int .i64 n_.xTime] 75, .blk iw [p87, u88] 135, .buf iw 0 p87 u88 5 b86] := S91
      refine AE_joinR (fun e h' => h89 = h' ∧ e.length = 39) (by
        simp only [↓WE, WA, WL, aop, ofValue, ofCell, isConst, abin, acall1, abuiltin, aun, AV.cells, AV.one, Nat.reduceAdd, Int.reduceLT, Int.reduceLE, ↓WD, W0, evalOp, Nat.reduceEqDiff, Nat.reduceLT, ↓reduceIte, reduceCtorEq, hl, e0, e3, e31, fa_135_0, fa_75_2, ol82, og84, ow90, tab_none n66]
        exact ⟨rfl, (by simp only [List.length_set, hl])⟩) ?_
      rintro envg94 _ ⟨rfl, hl⟩
      try simp only [↓WD, W0, evalOp, Nat.reduceEqDiff, Nat.reduceLT, ↓reduceIte, reduceCtorEq, hl]
      refine KP_end (vs := []) (by simp only [aresults, aresult, gs, List.length_set, Nat.reduceEqDiff, Nat.reduceLT, ↓reduceIte, hl]) ?_
      obtain rfl := Option.some.inj hF
      exact ⟨p87, u88, rfl, S93.pick [1, 2] (by decide) rfl⟩
    · rw [if_neg (nf c81)] at hF
      try simp only [↓WD, W0, evalOp, Nat.reduceEqDiff, Nat.reduceLT, ↓reduceIte, reduceCtorEq, hl, e0, e3, e31]
      refine KP_end (vs := []) (by simp only [aresults, aresult, gs, List.length_set, Nat.reduceEqDiff, Nat.reduceLT, ↓reduceIte, hl, e0, e3, e31]) ?_
      obtain rfl := Option.some.inj hF
      exact ⟨p57, u58, rfl, S63.pick [1, 2] (by decide) rfl⟩
theorem W_digest_Tree {K : PureK} (k16 : K 16 = some kf_16) (k90 : K 90 = some kf_90) (k116 : K 116 = some kf_116) (k128 : K 128 = some hb77) (n66 : K 66 = none) (n67 : K 67 = none) (n68 : K 68 = none) (n91 : K 91 = none) (n106 : K 106 = none) (n118 : K 118 = none) (n51 : K 51 = none) (m : Nat) (hm : NF + 6 ≤ m) (h : AH) (ut : AV) (t : List Gapi_Node) (hut : RO 5 ut h (t.map Gapi_Node.cells)) {r : (List UInt8)} (hF : F_digest_Tree t = some r) :
    AR (acall Try.prog (hooksOf K) (drawnOf Try.prog (tabOf K)) m 51 [ut] h) (fun v h' => v = .str r ∧ Sep h [] h' []) := by
  obtain ⟨m, rfl⟩ : ∃ k, m = k + 1 := ⟨m - 1, by omega⟩
  refine AR_call (hooksOf_none n51) Try.func51 rfl _ _ fun env hl he => ?_
  have e0 := he 0
  simp only [List.getD_cons_zero, List.getD_cons_succ] at e0
  simp only [Try.f51] at hl ⊢
  simp only [List.length_cons, List.length_nil, Nat.reduceAdd, Nat.reduceSub] at hl
  clear he
  have S0 : Sep h [] h [] := Sep.nil h
  rw [F_digest_Tree] at hF
  try simp only [↓WD, W0, evalOp, Nat.reduceEqDiff, Nat.reduceLT, ↓reduceIte, reduceCtorEq, hl, e0]
  rw [AW_region]
  refine AE_joinR (fun e h' => h = h' ∧ e.length = 23 ∧ e.getD 0 .undef = ut) (by
    simp only [↓WE, WA, WL, aop, ofValue, ofCell, isConst, abin, acall1, abuiltin, aun, AV.cells, AV.one, Nat.reduceAdd, Int.reduceLT, Int.reduceLE, ↓WD, W0, evalOp, Nat.reduceEqDiff, Nat.reduceLT, ↓reduceIte, reduceCtorEq, hl, e0]
    refine ⟨rfl, ?_, ?_⟩ <;> simp only [List.length_set, W0, Nat.reduceEqDiff, Nat.reduceLT, ↓reduceIte, hl, e0]) ?_
  rintro envg1 _ ⟨rfl, hl, e0⟩
  try simp only [↓WD, W0, evalOp, Nat.reduceEqDiff, Nat.reduceLT, ↓reduceIte, reduceCtorEq, hl, e0]
  rw [AW_region]
  obtain ⟨i2, h3, oa4, S5⟩ := S0.alloc 135 [.val (.pointer none), .val (.slice none 0 0)]
  have S7 : Sep h [] h3 [.blk i2 [.val (.pointer none), .val (.slice none 0 0)] 135] := S5
  have S9 : Sep h [] h3 [.blk i2 [.val (.pointer none), .val (.slice none 0 0)] 135, .buf i2 0 (.val (.pointer none)) (.val (.slice none 0 0)) 5 ([] : List UInt8)] := S7.nilbuf i2 0 5
  refine AE_joinR (fun e h' => h3 = h' ∧ e.length = 23 ∧ e.getD 0 .undef = ut ∧ e.getD 3 .undef = .ptr i2 0) (by
    simp only [↓WE, WA, WL, aop, ofValue, ofCell, isConst, abin, acall1, abuiltin, aun, AV.cells, AV.one, Nat.reduceAdd, Int.reduceLT, Int.reduceLE, ↓WD, W0, evalOp, Nat.reduceEqDiff, Nat.reduceLT, ↓reduceIte, reduceCtorEq, hl, e0, bd_135_, oa4]
    refine ⟨rfl, ?_, ?_, ?_⟩ <;> simp only [List.length_set, W0, Nat.reduceEqDiff, Nat.reduceLT, ↓reduceIte, hl, e0]) ?_
  rintro envg10 _ ⟨rfl, hl, e0, e3⟩
  try simp only [↓WD, W0, evalOp, Nat.reduceEqDiff, Nat.reduceLT, ↓reduceIte, reduceCtorEq, hl, e0, e3]
  rw [AW_region]
  have ol11 := RO.len (P := Try.prog) sl_67 (S9.ro hut)
  rw [List.length_map] at ol11
  refine AE_joinR (fun e h' => h3 = h' ∧ e.length = 23 ∧ e.getD 3 .undef = .ptr i2 0 ∧ e.getD 8 .undef = ut ∧ e.getD 9 .undef = .int .i64 (t.length : Int) ∧ e.getD 10 .undef = .int .i64 0) (by
    simp only [↓WE, WA, WL, aop, ofValue, ofCell, isConst, abin, acall1, abuiltin, aun, AV.cells, AV.one, Nat.reduceAdd, Int.reduceLT, Int.reduceLE, ↓WD, W0, evalOp, Nat.reduceEqDiff, Nat.reduceLT, ↓reduceIte, reduceCtorEq, hl, e0, e3, ol11]
    refine ⟨rfl, ?_, ?_, ?_, ?_, ?_⟩ <;> simp only [List.length_set, W0, Nat.reduceEqDiff, Nat.reduceLT, ↓reduceIte, hl, e0, e3]) ?_
  rintro envg12 _ ⟨rfl, hl, e3, e8, e9, e10⟩
  try simp only [↓WD, W0, evalOp, Nat.reduceEqDiff, Nat.reduceLT, ↓reduceIte, reduceCtorEq, hl, e3, e8, e9, e10]
  obtain ⟨r85, qr85, hF⟩ := obind hF
  refine AW_lift (L_digest_Tree_1 t) (fun s e h' => ∃ (p48 : AV), ∃ (u49 : AV), e.length = 23 ∧ e.getD 3 .undef = .ptr i2 0 ∧ e.getD 8 .undef = ut ∧ e.getD 9 .undef = .int .i64 (t.length : Int) ∧ e.getD 10 .undef = .int .i64 s.2 ∧ Sep h [] h' [.blk i2 [p48, u49] 135, .buf i2 0 p48 u49 5 s.1]) (fun r85 x e h' => ∃ (p86 : AV), ∃ (u87 : AV), x = .exit 0 ∧ e.length = 23 ∧ e.getD 3 .undef = .ptr i2 0 ∧ Sep h [] h' [.blk i2 [p86, u87] 135, .buf i2 0 p86 u87 5 r85]) qr85 (by omega) ?_ ?_ ?_
  · rintro s envr85 h50 or85 ⟨p48, u49, hl, e3, e8, e9, e10, S51⟩ wr85
    rw [L_digest_Tree_1] at wr85
    try simp only [↓WD, W0, evalOp, Nat.reduceEqDiff, Nat.reduceLT, ↓reduceIte, reduceCtorEq, hl, e3, e8, e9, e10]
    rw [AW_region]
    refine AE_joinR (fun e h' => h50 = h' ∧ e.length = 23 ∧ e.getD 3 .undef = .ptr i2 0 ∧ e.getD 8 .undef = ut ∧ e.getD 9 .undef = .int .i64 (t.length : Int) ∧ e.getD 10 .undef = .int .i64 s.2 ∧ e.getD 11 .undef = .bool (decide (s.2 < (t.length : Int)))) (by
      simp only [↓WE, WA, WL, aop, ofValue, ofCell, isConst, abin, acall1, abuiltin, aun, AV.cells, AV.one, Nat.reduceAdd, Int.reduceLT, Int.reduceLE, ↓WD, W0, evalOp, Nat.reduceEqDiff, Nat.reduceLT, ↓reduceIte, reduceCtorEq, hl, e3, e8, e9, e10]
      refine ⟨rfl, ?_, ?_, ?_, ?_, ?_, ?_⟩ <;> simp only [List.length_set, W0, Nat.reduceEqDiff, Nat.reduceLT, ↓reduceIte, hl, e3, e8, e9, e10]) ?_
    rintro envg52 _ ⟨rfl, hl, e3, e8, e9, e10, e11⟩
    try simp only [↓WD, W0, evalOp, Nat.reduceEqDiff, Nat.reduceLT, ↓reduceIte, reduceCtorEq, hl, e3, e8, e9, e10, e11]
    refine CondK_dec (fun c54 => ?_) (fun c54 => ?_)
    · rw [if_pos c54] at wr85
      try simp only [↓WD, W0, evalOp, Nat.reduceEqDiff, Nat.reduceLT, ↓reduceIte, reduceCtorEq, hl, e3, e8, e9, e10, e11]
      rw [AW_region]
      obtain ⟨x55, qx55, wr85⟩ := obind wr85
      obtain ⟨i56, off57, oi58, hp59⟩ := RO.addr (P := Try.prog) sl_67 (S51.ro hut) qx55
      have ol60 := RO.ld (P := Try.prog) (S51.ro hut) hp59 qx55 (t := 75) (o := 0) (v := .agg [.str x55.xPath, .bool x55.xDir, .str x55.xData, .int .i64 x55.xMode, .int .i64 x55.xTime]) (by omega) (by simp only [apart, ag_75, sz_75]; rfl)
      simp only [Nat.add_zero] at ol60
      obtain ⟨i61, h62, oa63, S64⟩ := S51.alloc 75 [.str [], .bool false, .str [], .int .i64 0, .int .i64 0]
      have S66 : Sep h [] h62 [.blk i2 [p48, u49] 135, .buf i2 0 p48 u49 5 s.1, .blk i61 [.str [], .bool false, .str [], .int .i64 0, .int .i64 0] 75] := S64
      obtain ⟨h67, os68, S69⟩ := S66.store (P := Try.prog) 2 rfl (t := 75) (off := 0) (v := .agg [.str x55.xPath, .bool x55.xDir, .str x55.xData, .int .i64 x55.xMode, .int .i64 x55.xTime]) (c' := [.str x55.xPath, .bool x55.xDir, .str x55.xData, .int .i64 x55.xMode, .int .i64 x55.xTime]) rfl sz_75 rfl (by simp) rfl
      have S70 : Sep h [] h67 [.blk i2 [p48, u49] 135, .buf i2 0 p48 u49 5 s.1, .blk i61 [.str x55.xPath, .bool x55.xDir, .str x55.xData, .int .i64 x55.xMode, .int .i64 x55.xTime] 75] := S69
      refine AE_joinR (fun e h' => h67 = h' ∧ e.length = 23 ∧ e.getD 3 .undef = .ptr i2 0 ∧ e.getD 5 .undef = .ptr i61 0 ∧ e.getD 8 .undef = ut ∧ e.getD 9 .undef = .int .i64 (t.length : Int) ∧ e.getD 10 .undef = .int .i64 s.2) (by
        simp only [↓WE, WA, WL, aop, ofValue, ofCell, isConst, abin, acall1, abuiltin, aun, AV.cells, AV.one, Nat.reduceAdd, Int.reduceLT, Int.reduceLE, ↓WD, W0, evalOp, Nat.reduceEqDiff, Nat.reduceLT, ↓reduceIte, reduceCtorEq, hl, e3, e8, e9, e10, e11, oi58, ol60, zero_75, oa63, os68]
        refine ⟨rfl, ?_, ?_, ?_, ?_, ?_, ?_⟩ <;> simp only [List.length_set, W0, Nat.reduceEqDiff, Nat.reduceLT, ↓reduceIte, hl, e3, e8, e9, e10, e11]) ?_
      rintro envg71 _ ⟨rfl, hl, e3, e5, e8, e9, e10⟩
      try simp only [↓WD, W0, evalOp, Nat.reduceEqDiff, Nat.reduceLT, ↓reduceIte, reduceCtorEq, hl, e3, e5, e8, e9, e10]
      rw [AW_region]
      have ol72 := S70.load (P := Try.prog) 2 rfl (t := 75) (off := 0) (v := .agg [.str x55.xPath, .bool x55.xDir, .str x55.xData, .int .i64 x55.xMode, .int .i64 x55.xTime]) (by simp only [apart, ag_75, sz_75]; rfl)
      obtain ⟨y73, qy73, wr85⟩ := obind wr85
      have S75 : Sep h [] h67 ([.blk i61 [.str x55.xPath, .bool x55.xDir, .str x55.xData, .int .i64 x55.xMode, .int .i64 x55.xTime] 75] ++ [.blk i2 [p48, u49] 135, .buf i2 0 p48 u49 5 s.1]) := S70.pick [2, 0, 1] (by decide) rfl
      obtain ⟨v79, h76, og74, zp0q78, zv0q78, rfl, S77⟩ := (W_digest_writer_node k16 k90 k116 k128 n66 n68 n106 n118 n91 m (by omega) h67 i2 p48 u49 (⟨s.1⟩ : Gdigest_writer) S75.okA S75.ndA x55 qy73).out
      have S80 : Sep h [] h76 [.blk i61 [.str x55.xPath, .bool x55.xDir, .str x55.xData, .int .i64 x55.xMode, .int .i64 x55.xTime] 75, .blk i2 [zp0q78, zv0q78] 135, .buf i2 0 zp0q78 zv0q78 5 y73.xBuilder] := S75.callN S77
      refine AE_joinR (fun e h' => h76 = h' ∧ e.length = 23 ∧ e.getD 3 .undef = .ptr i2 0 ∧ e.getD 8 .undef = ut ∧ e.getD 9 .undef = .int .i64 (t.length : Int) ∧ e.getD 10 .undef = .int .i64 s.2) (by
        simp only [↓WE, WA, WL, aop, ofValue, ofCell, isConst, abin, acall1, abuiltin, aun, AV.cells, AV.one, Nat.reduceAdd, Int.reduceLT, Int.reduceLE, ↓WD, W0, evalOp, Nat.reduceEqDiff, Nat.reduceLT, ↓reduceIte, reduceCtorEq, hl, e3, e5, e8, e9, e10, ol72, og74]
        refine ⟨rfl, ?_, ?_, ?_, ?_, ?_⟩ <;> simp only [List.length_set, W0, Nat.reduceEqDiff, Nat.reduceLT, ↓reduceIte, hl, e3, e5, e8, e9, e10]) ?_
      rintro envg81 _ ⟨rfl, hl, e3, e8, e9, e10⟩
      try simp only [↓WD, W0, evalOp, Nat.reduceEqDiff, Nat.reduceLT, ↓reduceIte, reduceCtorEq, hl, e3, e8, e9, e10]
      rw [AW_region]
      refine AE_joinR (fun e h' => h76 = h' ∧ e.length = 23 ∧ e.getD 3 .undef = .ptr i2 0 ∧ e.getD 8 .undef = ut ∧ e.getD 9 .undef = .int .i64 (t.length : Int) ∧ e.getD 10 .undef = .int .i64 (IntKind.i64.wrap (s.2 + 1))) (by
        simp only [↓WE, WA, WL, aop, ofValue, ofCell, isConst, abin, acall1, abuiltin, aun, AV.cells, AV.one, Nat.reduceAdd, Int.reduceLT, Int.reduceLE, ↓WD, W0, evalOp, Nat.reduceEqDiff, Nat.reduceLT, ↓reduceIte, reduceCtorEq, hl, e3, e8, e9, e10]
        refine ⟨rfl, ?_, ?_, ?_, ?_, ?_⟩ <;> simp only [List.length_set, W0, Nat.reduceEqDiff, Nat.reduceLT, ↓reduceIte, hl, e3, e8, e9, e10]) ?_
      rintro envg82 _ ⟨rfl, hl, e3, e8, e9, e10⟩
      try simp only [↓WD, W0, evalOp, Nat.reduceEqDiff, Nat.reduceLT, ↓reduceIte, reduceCtorEq, hl, e3, e8, e9, e10]
      obtain rfl := Option.some.inj wr85
      rw [KP_nil, QL_normal]
      refine ⟨_, rfl, zp0q78, zv0q78, ?_, ?_, ?_, ?_, ?_, S80.pick [1, 2] (by decide) rfl⟩ <;> simp only [List.length_set, W0, Nat.reduceEqDiff, Nat.reduceLT, ↓reduceIte, hl, e3, e8, e9, e10]
    · rw [if_neg c54] at wr85
      try simp only [↓WD, W0, evalOp, Nat.reduceEqDiff, Nat.reduceLT, ↓reduceIte, reduceCtorEq, hl, e3, e8, e9, e10, e11]
      obtain rfl := Option.some.inj wr85
      rw [KP_nil, QL_exit]
      refine ⟨_, rfl, p48, u49, rfl, ?_, ?_, S51⟩ <;> simp only [List.length_set, W0, Nat.reduceEqDiff, Nat.reduceLT, ↓reduceIte, hl, e3, e8, e9, e10, e11]
  · refine ⟨.val (.pointer none), .val (.slice none 0 0), ?_, ?_, ?_, ?_, ?_, S9⟩ <;> simp only [List.length_set, W0, Nat.reduceEqDiff, Nat.reduceLT, ↓reduceIte, hl, e3, e8, e9, e10]
  · rintro x envr85 h88 ⟨p86, u87, rfl, hl, e3, S89⟩
    try simp only [↓WD, W0, evalOp, Nat.reduceEqDiff, Nat.reduceLT, ↓reduceIte, reduceCtorEq, hl, e3]
    rw [AW_region]
    have S90 : Sep h [] h88 ([] ++ [.blk i2 ([] ++ p86 :: u87 :: []) 135, .buf i2 0 p86 u87 5 r85]) := S89.pick [0, 1] (by decide) rfl
    obtain ⟨_, q95, hF⟩ := obind hF
    obtain ⟨h91, ow94, S93⟩ := Sep.sstring (T := tabOf K) (pre := []) (post := []) S90 n67 (chkCap_le q95) m (by omega)
    have ow92 : acall Try.prog (hooksOf K) (drawnOf Try.prog (tabOf K)) m 67 [.ptr i2 0] h88 = some (.str r85, h91) := ow94
    have S96 : Sep h [] h91 [.blk i2 [p86, u87] 135] := S93
    obtain ⟨y97, qy97, hF⟩ := obind hF
    have og98 := fun (D : Drawn) (n : Nat) (g : AH) => call_hook (P := Try.prog) (D := D) k16 n (args := [.str r85]) (v := .str y97) ((kf_16_eq r85).trans (by rw [qy97]; rfl)) g
    refine AE_joinR (fun e h' => h91 = h' ∧ e.length = 23 ∧ e.getD 2 .undef = .str y97) (by
      simp only [↓WE, WA, WL, aop, ofValue, ofCell, isConst, abin, acall1, abuiltin, aun, AV.cells, AV.one, Nat.reduceAdd, Int.reduceLT, Int.reduceLE, ↓WD, W0, evalOp, Nat.reduceEqDiff, Nat.reduceLT, ↓reduceIte, reduceCtorEq, hl, e3, fa_135_0, ow92, og98]
      refine ⟨rfl, ?_, ?_⟩ <;> simp only [List.length_set, W0, Nat.reduceEqDiff, Nat.reduceLT, ↓reduceIte, hl, e3]) ?_
    rintro envg99 _ ⟨rfl, hl, e2⟩
    try simp only [↓WD, W0, evalOp, Nat.reduceEqDiff, Nat.reduceLT, ↓reduceIte, reduceCtorEq, hl, e2]
    refine KP_ret (vs := [.str y97]) (by simp only [aresults, aresult, gs, List.length_set, Nat.reduceEqDiff, Nat.reduceLT, ↓reduceIte, hl, e2]) ?_
    obtain rfl := Option.some.inj hF
    exact ⟨rfl, S96.pick [] (by decide) rfl⟩
theorem W_digest_Node {K : PureK} (k16 : K 16 = some kf_16) (k90 : K 90 = some kf_90) (k116 : K 116 = some kf_116) (k128 : K 128 = some hb77) (n66 : K 66 = none) (n67 : K 67 = none) (n68 : K 68 = none) (n91 : K 91 = none) (n106 : K 106 = none) (n118 : K 118 = none) (n49 : K 49 = none) (m : Nat) (hm : NF + 6 ≤ m) (h : AH) (n_ : Gapi_Node) {r : (List UInt8)} (hF : F_digest_Node n_ = some r) :
    AR (acall Try.prog (hooksOf K) (drawnOf Try.prog (tabOf K)) m 49 [.agg [.str n_.xPath, .bool n_.xDir, .str n_.xData, .int .i64 n_.xMode, .int .i64 n_.xTime]] h) (fun v h' => v = .str r) := by
  obtain ⟨m, rfl⟩ : ∃ k, m = k + 1 := ⟨m - 1, by omega⟩
  refine AR_call (hooksOf_none n49) Try.func49 rfl _ _ fun env hl he => ?_
  have e0 := he 0
  simp only [List.getD_cons_zero, List.getD_cons_succ] at e0
  simp only [Try.f49] at hl ⊢
  simp only [List.length_cons, List.length_nil, Nat.reduceAdd, Nat.reduceSub] at hl
  clear he
  have S0 : Sep h [] h [] := Sep.nil h
  rw [F_digest_Node] at hF
  try simp only [↓WD, W0, evalOp, Nat.reduceEqDiff, Nat.reduceLT, ↓reduceIte, reduceCtorEq, hl, e0]
  rw [AW_region]
  obtain ⟨i1, h2, oa3, S4⟩ := S0.alloc 75 [.str n_.xPath, .bool n_.xDir, .str n_.xData, .int .i64 n_.xMode, .int .i64 n_.xTime]
  have S6 : Sep h [] h2 [.blk i1 [.str n_.xPath, .bool n_.xDir, .str n_.xData, .int .i64 n_.xMode, .int .i64 n_.xTime] 75] := S4
  refine AE_joinR (fun e h' => h2 = h' ∧ e.length = 13 ∧ e.getD 1 .undef = .ptr i1 0) (by
    simp only [↓WE, WA, WL, aop, ofValue, ofCell, isConst, abin, acall1, abuiltin, aun, AV.cells, AV.one, Nat.reduceAdd, Int.reduceLT, Int.reduceLE, ↓WD, W0, evalOp, Nat.reduceEqDiff, Nat.reduceLT, ↓reduceIte, reduceCtorEq, hl, e0, oa3]
    refine ⟨rfl, ?_, ?_⟩ <;> simp only [List.length_set, W0, Nat.reduceEqDiff, Nat.reduceLT, ↓reduceIte, hl, e0]) ?_
  rintro envg7 _ ⟨rfl, hl, e1⟩
  try simp only [↓WD, W0, evalOp, Nat.reduceEqDiff, Nat.reduceLT, ↓reduceIte, reduceCtorEq, hl, e1]
  rw [AW_region]
  obtain ⟨i8, h9, oa10, S11⟩ := S6.alloc 135 [.val (.pointer none), .val (.slice none 0 0)]
  have S13 : Sep h [] h9 [.blk i1 [.str n_.xPath, .bool n_.xDir, .str n_.xData, .int .i64 n_.xMode, .int .i64 n_.xTime] 75, .blk i8 [.val (.pointer none), .val (.slice none 0 0)] 135] := S11
  have S15 : Sep h [] h9 [.blk i1 [.str n_.xPath, .bool n_.xDir, .str n_.xData, .int .i64 n_.xMode, .int .i64 n_.xTime] 75, .blk i8 [.val (.pointer none), .val (.slice none 0 0)] 135, .buf i8 0 (.val (.pointer none)) (.val (.slice none 0 0)) 5 ([] : List UInt8)] := S13.nilbuf i8 0 5
  refine AE_joinR (fun e h' => h9 = h' ∧ e.length = 13 ∧ e.getD 1 .undef = .ptr i1 0 ∧ e.getD 3 .undef = .ptr i8 0) (by
    simp only [↓WE, WA, WL, aop, ofValue, ofCell, isConst, abin, acall1, abuiltin, aun, AV.cells, AV.one, Nat.reduceAdd, Int.reduceLT, Int.reduceLE, ↓WD, W0, evalOp, Nat.reduceEqDiff, Nat.reduceLT, ↓reduceIte, reduceCtorEq, hl, e1, bd_135_, oa10]
    refine ⟨rfl, ?_, ?_, ?_⟩ <;> simp only [List.length_set, W0, Nat.reduceEqDiff, Nat.reduceLT, ↓reduceIte, hl, e1]) ?_
  rintro envg16 _ ⟨rfl, hl, e1, e3⟩
  try simp only [↓WD, W0, evalOp, Nat.reduceEqDiff, Nat.reduceLT, ↓reduceIte, reduceCtorEq, hl, e1, e3]
  rw [AW_region]
  have ol17 := S15.load (P := Try.prog) 0 rfl (t := 75) (off := 0) (v := .agg [.str n_.xPath, .bool n_.xDir, .str n_.xData, .int .i64 n_.xMode, .int .i64 n_.xTime]) (by simp only [apart, ag_75, sz_75]; rfl)
  obtain ⟨y18, qy18, hF⟩ := obind hF
  have S20 : Sep h [] h9 ([.blk i1 [.str n_.xPath, .bool n_.xDir, .str n_.xData, .int .i64 n_.xMode, .int .i64 n_.xTime] 75] ++ [.blk i8 [.val (.pointer none), .val (.slice none 0 0)] 135, .buf i8 0 (.val (.pointer none)) (.val (.slice none 0 0)) 5 ([] : List UInt8)]) := S15.pick [0, 1, 2] (by decide) rfl
  obtain ⟨v24, h21, og19, zp0q23, zv0q23, rfl, S22⟩ := (W_digest_writer_node k16 k90 k116 k128 n66 n68 n106 n118 n91 m (by omega) h9 i8 (.val (.pointer none)) (.val (.slice none 0 0)) (⟨([] : List UInt8)⟩ : Gdigest_writer) S20.okA S20.ndA n_ qy18).out
  have S25 : Sep h [] h21 [.blk i1 [.str n_.xPath, .bool n_.xDir, .str n_.xData, .int .i64 n_.xMode, .int .i64 n_.xTime] 75, .blk i8 [zp0q23, zv0q23] 135, .buf i8 0 zp0q23 zv0q23 5 y18.xBuilder] := S20.callN S22
  refine AE_joinR (fun e h' => h21 = h' ∧ e.length = 13 ∧ e.getD 3 .undef = .ptr i8 0) (by
    simp only [↓WE, WA, WL, aop, ofValue, ofCell, isConst, abin, acall1, abuiltin, aun, AV.cells, AV.one, Nat.reduceAdd, Int.reduceLT, Int.reduceLE, ↓WD, W0, evalOp, Nat.reduceEqDiff, Nat.reduceLT, ↓reduceIte, reduceCtorEq, hl, e1, e3, ol17, og19]
    refine ⟨rfl, ?_, ?_⟩ <;> simp only [List.length_set, W0, Nat.reduceEqDiff, Nat.reduceLT, ↓reduceIte, hl, e1, e3]) ?_
  rintro envg26 _ ⟨rfl, hl, e3⟩
  try simp only [↓WD, W0, evalOp, Nat.reduceEqDiff, Nat.reduceLT, ↓reduceIte, reduceCtorEq, hl, e3]
  rw [AW_region]
  have S27 : Sep h [] h21 ([.blk i1 [.str n_.xPath, .bool n_.xDir, .str n_.xData, .int .i64 n_.xMode, .int .i64 n_.xTime] 75] ++ [.blk i8 ([] ++ zp0q23 :: zv0q23 :: []) 135, .buf i8 0 zp0q23 zv0q23 5 y18.xBuilder]) := S25.pick [0, 1, 2] (by decide) rfl
  obtain ⟨_, q32, hF⟩ := obind hF
  obtain ⟨h28, ow31, S30⟩ := Sep.sstring (T := tabOf K) (pre := []) (post := []) S27 n67 (chkCap_le q32) m (by omega)
  have ow29 : acall Try.prog (hooksOf K) (drawnOf Try.prog (tabOf K)) m 67 [.ptr i8 0] h21 = some (.str y18.xBuilder, h28) := ow31
  have S33 : Sep h [] h28 [.blk i1 [.str n_.xPath, .bool n_.xDir, .str n_.xData, .int .i64 n_.xMode, .int .i64 n_.xTime] 75, .blk i8 [zp0q23, zv0q23] 135] := S30
  refine AE_joinR (fun e h' => h28 = h' ∧ e.length = 13 ∧ e.getD 2 .undef = .str y18.xBuilder) (by
    simp only [↓WE, WA, WL, aop, ofValue, ofCell, isConst, abin, acall1, abuiltin, aun, AV.cells, AV.one, Nat.reduceAdd, Int.reduceLT, Int.reduceLE, ↓WD, W0, evalOp, Nat.reduceEqDiff, Nat.reduceLT, ↓reduceIte, reduceCtorEq, hl, e3, fa_135_0, ow29]
    refine ⟨rfl, ?_, ?_⟩ <;> simp only [List.length_set, W0, Nat.reduceEqDiff, Nat.reduceLT, ↓reduceIte, hl, e3]) ?_
  rintro envg34 _ ⟨rfl, hl, e2⟩
  try simp only [↓WD, W0, evalOp, Nat.reduceEqDiff, Nat.reduceLT, ↓reduceIte, reduceCtorEq, hl, e2]
  refine KP_ret (vs := [.str y18.xBuilder]) (by simp only [aresults, aresult, gs, List.length_set, Nat.reduceEqDiff, Nat.reduceLT, ↓reduceIte, hl, e2]) ?_
  obtain rfl := Option.some.inj hF
  exact rfl
theorem W_digest_writer_paths {K : PureK} (k90 : K 90 = some kf_90) (k128 : K 128 = some hb77) (n66 : K 66 = none) (n68 : K 68 = none) (n106 : K 106 = none) (n118 : K 118 = none) (n92 : K 92 = none) (m : Nat) (hm : NF + 5 ≤ m) (h : AH) (iw : Nat) (p0w : AV) (v0w : AV) (w : Gdigest_writer) (hokw : ∀ e ∈ ([.blk iw [p0w, v0w] 135, .buf iw 0 p0w v0w 5 w.xBuilder] : List Ent), e.ok h) (hndw : (([.blk iw [p0w, v0w] 135, .buf iw 0 p0w v0w 5 w.xBuilder] : List Ent).flatMap Ent.ids).Nodup) (kind : Int) (ul : AV) (l : List (List UInt8)) (hul : RO 1 ul h (l.map cellS)) (hxl : (l.map cellS) = [] ∨ ∀ k ∈ idsOf ul, k ∉ (([.blk iw [p0w, v0w] 135, .buf iw 0 p0w v0w 5 w.xBuilder] : List Ent).flatMap Ent.ids)) {r : Gdigest_writer} (hF : F_digest_writer_paths w kind l = some r) :
    AR (acall Try.prog (hooksOf K) (drawnOf Try.prog (tabOf K)) m 92 [.ptr iw 0, .int .u8 kind, ul] h) (fun v h' => ∃ xp0w : AV, ∃ xv0w : AV, v = .tup [] ∧ Sep h (([.blk iw [p0w, v0w] 135, .buf iw 0 p0w v0w 5 w.xBuilder] : List Ent).flatMap Ent.ids) h' [.blk iw [xp0w, xv0w] 135, .buf iw 0 xp0w xv0w 5 r.xBuilder]) := by
  obtain ⟨m, rfl⟩ : ∃ k, m = k + 1 := ⟨m - 1, by omega⟩
  refine AR_call (hooksOf_none n92) Try.func92 rfl _ _ fun env hl he => ?_
  have e0 := he 0
  have e1 := he 1
  have e2 := he 2
  simp only [List.getD_cons_zero, List.getD_cons_succ] at e0 e1 e2
  simp only [Try.f92] at hl ⊢
  simp only [List.length_cons, List.length_nil, Nat.reduceAdd, Nat.reduceSub] at hl
  clear he
  have S0 : Sep h (([.blk iw [p0w, v0w] 135, .buf iw 0 p0w v0w 5 w.xBuilder] : List Ent).flatMap Ent.ids) h [.blk iw [p0w, v0w] 135, .buf iw 0 p0w v0w 5 w.xBuilder] := Sep.lendN hokw hndw
  rw [F_digest_writer_paths] at hF
  try simp only [↓WD, W0, evalOp, Nat.reduceEqDiff, Nat.reduceLT, ↓reduceIte, reduceCtorEq, hl, e0, e1, e2]
  rw [AW_region]
  have S1 : Sep h (([.blk iw [p0w, v0w] 135, .buf iw 0 p0w v0w 5 w.xBuilder] : List Ent).flatMap Ent.ids) h ([] ++ [.blk iw ([] ++ p0w :: v0w :: []) 135, .buf iw 0 p0w v0w 5 w.xBuilder]) := S0.pick [0, 1] (by decide) rfl
  obtain ⟨x2, qx2, hF⟩ := obind hF
  obtain ⟨b3, qb3, hF⟩ := obind hF
  obtain ⟨p4, u5, h6, ow9, S8⟩ := Sep.sbyte (T := tabOf K) (pre := []) (post := []) S1 bl_135_0 k128 n106 n68 qx2 qb3 m (by omega)
  have ow7 : acall Try.prog (hooksOf K) (drawnOf Try.prog (tabOf K)) m 68 [.ptr iw 0, .int .u8 kind] h = some (.val .nilIface, h6) := ow9
  have S10 : Sep h (([.blk iw [p0w, v0w] 135, .buf iw 0 p0w v0w 5 w.xBuilder] : List Ent).flatMap Ent.ids) h6 [.blk iw [p4, u5] 135, .buf iw 0 p4 u5 5 b3] := S8
  refine AE_joinR (fun e h' => h6 = h' ∧ e.length = 30 ∧ e.getD 0 .undef = .ptr iw 0 ∧ e.getD 2 .undef = ul) (by
    simp only [↓WE, WA, WL, aop, ofValue, ofCell, isConst, abin, acall1, abuiltin, aun, AV.cells, AV.one, Nat.reduceAdd, Int.reduceLT, Int.reduceLE, ↓WD, W0, evalOp, Nat.reduceEqDiff, Nat.reduceLT, ↓reduceIte, reduceCtorEq, hl, e0, e1, e2, fa_135_0, ow7]
    refine ⟨rfl, ?_, ?_, ?_⟩ <;> simp only [List.length_set, W0, Nat.reduceEqDiff, Nat.reduceLT, ↓reduceIte, hl, e0, e1, e2]) ?_
  rintro envg11 _ ⟨rfl, hl, e0, e2⟩
  try simp only [↓WD, W0, evalOp, Nat.reduceEqDiff, Nat.reduceLT, ↓reduceIte, reduceCtorEq, hl, e0, e2]
  rw [AW_drawn, AE_drawnK (Ksub.cons k90 (Ksub.cons k128 Ksub.nil)) (by kernel_rfl)]
  have ol12 := RO.len (P := Try.prog) sl_51 (S10.ro_away hxl hul)
  rw [List.length_map] at ol12
  obtain ⟨y13, qy13, hF⟩ := obind hF
  have og14 := fun (cf : CallF) (g : AH) => tab_hook (cf := cf) k90 (args := [.int .i64 (l.length : Int)]) (v := .str y13) ((kf_90_eq (l.length : Int)).trans (by rw [qy13]; rfl)) g
  have S15 : Sep h (([.blk iw [p0w, v0w] 135, .buf iw 0 p0w v0w 5 w.xBuilder] : List Ent).flatMap Ent.ids) h6 ([] ++ [.blk iw ([] ++ p4 :: u5 :: []) 135, .buf iw 0 p4 u5 5 b3]) := S10.pick [0, 1] (by decide) rfl
  obtain ⟨b16, qb16, hF⟩ := obind hF
  obtain ⟨p17, u18, h19, ow22, S21⟩ := Sep.swrite (T := tabOf K) (pre := []) (post := []) S15 bl_135_0 k128 n106 n66 qb16 m (by omega)
  have ow20 : acall Try.prog (hooksOf K) (drawnOf Try.prog (tabOf K)) m 66 [.ptr iw 0, .str y13] h6 = some (.tup [.int .i64 (y13.length : Int), .val .nilIface], h19) := ow22
  have S23 : Sep h (([.blk iw [p0w, v0w] 135, .buf iw 0 p0w v0w 5 w.xBuilder] : List Ent).flatMap Ent.ids) h19 [.blk iw [p17, u18] 135, .buf iw 0 p17 u18 5 b16] := S21
  refine AE_joinR (fun e h' => h19 = h' ∧ e.length = 30 ∧ e.getD 0 .undef = .ptr iw 0 ∧ e.getD 2 .undef = ul) (by
    simp only [↓WE, WA, WL, aop, ofValue, ofCell, isConst, abin, acall1, abuiltin, aun, AV.cells, AV.one, Nat.reduceAdd, Int.reduceLT, Int.reduceLE, ↓WD, W0, evalOp, Nat.reduceEqDiff, Nat.reduceLT, ↓reduceIte, reduceCtorEq, hl, e0, e2, fa_135_0, ol12, og14, ow20, tab_none n66]
    refine ⟨rfl, ?_, ?_, ?_⟩ <;> simp only [List.length_set, W0, Nat.reduceEqDiff, Nat.reduceLT, ↓reduceIte, hl, e0, e2]) ?_
  rintro envg24 _ ⟨rfl, hl, e0, e2⟩
  try simp only [↓WD, W0, evalOp, Nat.reduceEqDiff, Nat.reduceLT, ↓reduceIte, reduceCtorEq, hl, e0, e2]
  rw [AW_region]
  have ol25 := RO.len (P := Try.prog) sl_51 (S23.ro_away hxl hul)
  rw [List.length_map] at ol25
  refine AE_joinR (fun e h' => h19 = h' ∧ e.length = 30 ∧ e.getD 0 .undef = .ptr iw 0 ∧ e.getD 20 .undef = ul ∧ e.getD 21 .undef = .int .i64 (l.length : Int) ∧ e.getD 22 .undef = .int .i64 0) (by
    simp only [↓WE, WA, WL, aop, ofValue, ofCell, isConst, abin, acall1, abuiltin, aun, AV.cells, AV.one, Nat.reduceAdd, Int.reduceLT, Int.reduceLE, ↓WD, W0, evalOp, Nat.reduceEqDiff, Nat.reduceLT, ↓reduceIte, reduceCtorEq, hl, e0, e2, ol25]
    refine ⟨rfl, ?_, ?_, ?_, ?_, ?_⟩ <;> simp only [List.length_set, W0, Nat.reduceEqDiff, Nat.reduceLT, ↓reduceIte, hl, e0, e2]) ?_
  rintro envg26 _ ⟨rfl, hl, e0, e20, e21, e22⟩
  try simp only [↓WD, W0, evalOp, Nat.reduceEqDiff, Nat.reduceLT, ↓reduceIte, reduceCtorEq, hl, e0, e20, e21, e22]
  obtain ⟨r77, qr77, hF⟩ := obind hF
  refine AW_lift (L_digest_writer_paths_1 l) (fun s e h' => ∃ (p51 : AV), ∃ (u52 : AV), e.length = 30 ∧ e.getD 0 .undef = .ptr iw 0 ∧ e.getD 20 .undef = ul ∧ e.getD 21 .undef = .int .i64 (l.length : Int) ∧ e.getD 22 .undef = .int .i64 s.2 ∧ Sep h (([.blk iw [p0w, v0w] 135, .buf iw 0 p0w v0w 5 w.xBuilder] : List Ent).flatMap Ent.ids) h' [.blk iw [p51, u52] 135, .buf iw 0 p51 u52 5 s.1]) (fun r77 x e h' => ∃ (p78 : AV), ∃ (u79 : AV), x = .exit 0 ∧ e.length = 30 ∧ Sep h (([.blk iw [p0w, v0w] 135, .buf iw 0 p0w v0w 5 w.xBuilder] : List Ent).flatMap Ent.ids) h' [.blk iw [p78, u79] 135, .buf iw 0 p78 u79 5 r77]) qr77 (by omega) ?_ ?_ ?_
  · rintro s envr77 h53 or77 ⟨p51, u52, hl, e0, e20, e21, e22, S54⟩ wr77
    rw [L_digest_writer_paths_1] at wr77
    try simp only [↓WD, W0, evalOp, Nat.reduceEqDiff, Nat.reduceLT, ↓reduceIte, reduceCtorEq, hl, e0, e20, e21, e22]
    rw [AW_region]
    refine AE_joinR (fun e h' => h53 = h' ∧ e.length = 30 ∧ e.getD 0 .undef = .ptr iw 0 ∧ e.getD 20 .undef = ul ∧ e.getD 21 .undef = .int .i64 (l.length : Int) ∧ e.getD 22 .undef = .int .i64 s.2 ∧ e.getD 23 .undef = .bool (decide (s.2 < (l.length : Int)))) (by
      simp only [↓WE, WA, WL, aop, ofValue, ofCell, isConst, abin, acall1, abuiltin, aun, AV.cells, AV.one, Nat.reduceAdd, Int.reduceLT, Int.reduceLE, ↓WD, W0, evalOp, Nat.reduceEqDiff, Nat.reduceLT, ↓reduceIte, reduceCtorEq, hl, e0, e20, e21, e22]
      refine ⟨rfl, ?_, ?_, ?_, ?_, ?_, ?_⟩ <;> simp only [List.length_set, W0, Nat.reduceEqDiff, Nat.reduceLT, ↓reduceIte, hl, e0, e20, e21, e22]) ?_
    rintro envg55 _ ⟨rfl, hl, e0, e20, e21, e22, e23⟩
    try simp only [↓WD, W0, evalOp, Nat.reduceEqDiff, Nat.reduceLT, ↓reduceIte, reduceCtorEq, hl, e0, e20, e21, e22, e23]
    refine CondK_dec (fun c57 => ?_) (fun c57 => ?_)
    · rw [if_pos c57] at wr77
      try simp only [↓WD, W0, evalOp, Nat.reduceEqDiff, Nat.reduceLT, ↓reduceIte, reduceCtorEq, hl, e0, e20, e21, e22, e23]
      rw [AW_region]
      obtain ⟨x58, qx58, wr77⟩ := obind wr77
      obtain ⟨i59, off60, oi61, hp62⟩ := RO.addr (P := Try.prog) sl_51 (S54.ro_away hxl hul) qx58
      have ol63 := RO.ld (P := Try.prog) (S54.ro_away hxl hul) hp62 qx58 (t := 9) (o := 0) (v := .str x58) (by omega) (by simp only [apart, ag_9, sz_9]; rfl)
      simp only [Nat.add_zero] at ol63
      refine AE_joinR (fun e h' => h53 = h' ∧ e.length = 30 ∧ e.getD 0 .undef = .ptr iw 0 ∧ e.getD 7 .undef = .str x58 ∧ e.getD 20 .undef = ul ∧ e.getD 21 .undef = .int .i64 (l.length : Int) ∧ e.getD 22 .undef = .int .i64 s.2) (by
        simp only [↓WE, WA, WL, aop, ofValue, ofCell, isConst, abin, acall1, abuiltin, aun, AV.cells, AV.one, Nat.reduceAdd, Int.reduceLT, Int.reduceLE, ↓WD, W0, evalOp, Nat.reduceEqDiff, Nat.reduceLT, ↓reduceIte, reduceCtorEq, hl, e0, e20, e21, e22, e23, oi61, ol63]
        refine ⟨rfl, ?_, ?_, ?_, ?_, ?_, ?_⟩ <;> simp only [List.length_set, W0, Nat.reduceEqDiff, Nat.reduceLT, ↓reduceIte, hl, e0, e20, e21, e22, e23]) ?_
      rintro envg64 _ ⟨rfl, hl, e0, e7, e20, e21, e22⟩
      try simp only [↓WD, W0, evalOp, Nat.reduceEqDiff, Nat.reduceLT, ↓reduceIte, reduceCtorEq, hl, e0, e7, e20, e21, e22]
      rw [AW_region]
      obtain ⟨y65, qy65, wr77⟩ := obind wr77
      have S67 : Sep h (([.blk iw [p0w, v0w] 135, .buf iw 0 p0w v0w 5 w.xBuilder] : List Ent).flatMap Ent.ids) h53 ([] ++ [.blk iw [p51, u52] 135, .buf iw 0 p51 u52 5 s.1]) := S54.pick [0, 1] (by decide) rfl
      obtain ⟨v71, h68, og66, zp0q70, zv0q70, rfl, S69⟩ := (W_digest_writer_path k90 k128 n66 n106 n118 m (by omega) h53 iw p51 u52 (⟨s.1⟩ : Gdigest_writer) S67.okA S67.ndA x58 qy65).out
      have S72 : Sep h (([.blk iw [p0w, v0w] 135, .buf iw 0 p0w v0w 5 w.xBuilder] : List Ent).flatMap Ent.ids) h68 [.blk iw [zp0q70, zv0q70] 135, .buf iw 0 zp0q70 zv0q70 5 y65.xBuilder] := S67.callN S69
      refine AE_joinR (fun e h' => h68 = h' ∧ e.length = 30 ∧ e.getD 0 .undef = .ptr iw 0 ∧ e.getD 20 .undef = ul ∧ e.getD 21 .undef = .int .i64 (l.length : Int) ∧ e.getD 22 .undef = .int .i64 s.2) (by
        simp only [↓WE, WA, WL, aop, ofValue, ofCell, isConst, abin, acall1, abuiltin, aun, AV.cells, AV.one, Nat.reduceAdd, Int.reduceLT, Int.reduceLE, ↓WD, W0, evalOp, Nat.reduceEqDiff, Nat.reduceLT, ↓reduceIte, reduceCtorEq, hl, e0, e7, e20, e21, e22, og66]
        refine ⟨rfl, ?_, ?_, ?_, ?_, ?_⟩ <;> simp only [List.length_set, W0, Nat.reduceEqDiff, Nat.reduceLT, ↓reduceIte, hl, e0, e7, e20, e21, e22]) ?_
      rintro envg73 _ ⟨rfl, hl, e0, e20, e21, e22⟩
      try simp only [↓WD, W0, evalOp, Nat.reduceEqDiff, Nat.reduceLT, ↓reduceIte, reduceCtorEq, hl, e0, e20, e21, e22]
      rw [AW_region]
      refine AE_joinR (fun e h' => h68 = h' ∧ e.length = 30 ∧ e.getD 0 .undef = .ptr iw 0 ∧ e.getD 20 .undef = ul ∧ e.getD 21 .undef = .int .i64 (l.length : Int) ∧ e.getD 22 .undef = .int .i64 (IntKind.i64.wrap (s.2 + 1))) (by
        simp only [↓WE, WA, WL, aop, ofValue, ofCell, isConst, abin, acall1, abuiltin, aun, AV.cells, AV.one, Nat.reduceAdd, Int.reduceLT, Int.reduceLE, ↓WD, W0, evalOp, Nat.reduceEqDiff, Nat.reduceLT, ↓reduceIte, reduceCtorEq, hl, e0, e20, e21, e22]
        refine ⟨rfl, ?_, ?_, ?_, ?_, ?_⟩ <;> simp only [List.length_set, W0, Nat.reduceEqDiff, Nat.reduceLT, ↓reduceIte, hl, e0, e20, e21, e22]) ?_
      rintro envg74 _ ⟨rfl, hl, e0, e20, e21, e22⟩
      try simp only [↓WD, W0, evalOp, Nat.reduceEqDiff, Nat.reduceLT, ↓reduceIte, reduceCtorEq, hl, e0, e20, e21, e22]
      obtain rfl := Option.some.inj wr77
      rw [KP_nil, QL_normal]
      refine ⟨_, rfl, zp0q70, zv0q70, ?_, ?_, ?_, ?_, ?_, S72⟩ <;> simp only [List.length_set, W0, Nat.reduceEqDiff, Nat.reduceLT, ↓reduceIte, hl, e0, e20, e21, e22]
    · rw [if_neg c57] at wr77
      try simp only [↓WD, W0, evalOp, Nat.reduceEqDiff, Nat.reduceLT, ↓reduceIte, reduceCtorEq, hl, e0, e20, e21, e22, e23]
      obtain rfl := Option.some.inj wr77
      rw [KP_nil, QL_exit]
      exact ⟨_, rfl, p51, u52, rfl, (by simp only [List.length_set, hl]), S54⟩
  · refine ⟨p17, u18, ?_, ?_, ?_, ?_, ?_, S23⟩ <;> simp only [List.length_set, W0, Nat.reduceEqDiff, Nat.reduceLT, ↓reduceIte, hl, e0, e20, e21, e22]
  · rintro x envr77 h80 ⟨p78, u79, rfl, hl, S81⟩
    try simp only [↓WD, W0, evalOp, Nat.reduceEqDiff, Nat.reduceLT, ↓reduceIte, reduceCtorEq, hl]
    refine KP_end (vs := []) (by simp only [aresults, aresult, gs, List.length_set, Nat.reduceEqDiff, Nat.reduceLT, ↓reduceIte, hl]) ?_
    obtain rfl := Option.some.inj hF
    exact ⟨p78, u79, rfl, S81⟩
theorem W_digest_Layer {K : PureK} (k16 : K 16 = some kf_16) (k90 : K 90 = some kf_90) (k116 : K 116 = some kf_116) (k128 : K 128 = some hb77) (n66 : K 66 = none) (n67 : K 67 = none) (n68 : K 68 = none) (n91 : K 91 = none) (n92 : K 92 = none) (n106 : K 106 = none) (n118 : K 118 = none) (n46 : K 46 = none) (m : Nat) (hm : NF + 6 ≤ m) (h : AH) (ul_0 : AV) (ul_1 : AV) (ul_2 : AV) (l : Gapi_Layer) (hul_0 : RO 5 ul_0 h (l.xAdds.map Gapi_Node.cells)) (hul_1 : RO 1 ul_1 h (l.xWhites.map cellS)) (hul_2 : RO 1 ul_2 h (l.xOpaques.map cellS)) {r : (List UInt8)} (hF : F_digest_Layer l = some r) :
    AR (acall Try.prog (hooksOf K) (drawnOf Try.prog (tabOf K)) m 46 [.agg [ul_0, ul_1, ul_2]] h) (fun v h' => v = .str r ∧ Sep h [] h' []) := by
  obtain ⟨m, rfl⟩ : ∃ k, m = k + 1 := ⟨m - 1, by omega⟩
  refine AR_call (hooksOf_none n46) Try.func46 rfl _ _ fun env hl he => ?_
  have e0 := he 0
  simp only [List.getD_cons_zero, List.getD_cons_succ] at e0
  simp only [Try.f46] at hl ⊢
  simp only [List.length_cons, List.length_nil, Nat.reduceAdd, Nat.reduceSub] at hl
  clear he
  have S0 : Sep h [] h [] := Sep.nil h
  rw [F_digest_Layer] at hF
  try simp only [↓WD, W0, evalOp, Nat.reduceEqDiff, Nat.reduceLT, ↓reduceIte, reduceCtorEq, hl, e0]
  rw [AW_region]
  obtain ⟨i1, h2, oa3, S4⟩ := S0.alloc 69 [ul_0, ul_1, ul_2]
  have S6 : Sep h [] h2 [.blk i1 [ul_0, ul_1, ul_2] 69] := S4
  refine AE_joinR (fun e h' => h2 = h' ∧ e.length = 44 ∧ e.getD 1 .undef = .ptr i1 0) (by
    simp only [↓WE, WA, WL, aop, ofValue, ofCell, isConst, abin, acall1, abuiltin, aun, AV.cells, AV.one, Nat.reduceAdd, Int.reduceLT, Int.reduceLE, ↓WD, W0, evalOp, Nat.reduceEqDiff, Nat.reduceLT, ↓reduceIte, reduceCtorEq, hl, e0, oa3]
    refine ⟨rfl, ?_, ?_⟩ <;> simp only [List.length_set, W0, Nat.reduceEqDiff, Nat.reduceLT, ↓reduceIte, hl, e0]) ?_
  rintro envg7 _ ⟨rfl, hl, e1⟩
  try simp only [↓WD, W0, evalOp, Nat.reduceEqDiff, Nat.reduceLT, ↓reduceIte, reduceCtorEq, hl, e1]
  rw [AW_region]
  obtain ⟨i8, h9, oa10, S11⟩ := S6.alloc 135 [.val (.pointer none), .val (.slice none 0 0)]
  have S13 : Sep h [] h9 [.blk i1 [ul_0, ul_1, ul_2] 69, .blk i8 [.val (.pointer none), .val (.slice none 0 0)] 135] := S11
  have S15 : Sep h [] h9 [.blk i1 [ul_0, ul_1, ul_2] 69, .blk i8 [.val (.pointer none), .val (.slice none 0 0)] 135, .buf i8 0 (.val (.pointer none)) (.val (.slice none 0 0)) 5 ([] : List UInt8)] := S13.nilbuf i8 0 5
  refine AE_joinR (fun e h' => h9 = h' ∧ e.length = 44 ∧ e.getD 1 .undef = .ptr i1 0 ∧ e.getD 3 .undef = .ptr i8 0) (by
    simp only [↓WE, WA, WL, aop, ofValue, ofCell, isConst, abin, acall1, abuiltin, aun, AV.cells, AV.one, Nat.reduceAdd, Int.reduceLT, Int.reduceLE, ↓WD, W0, evalOp, Nat.reduceEqDiff, Nat.reduceLT, ↓reduceIte, reduceCtorEq, hl, e1, bd_135_, oa10]
    refine ⟨rfl, ?_, ?_, ?_⟩ <;> simp only [List.length_set, W0, Nat.reduceEqDiff, Nat.reduceLT, ↓reduceIte, hl, e1]) ?_
  rintro envg16 _ ⟨rfl, hl, e1, e3⟩
  try simp only [↓WD, W0, evalOp, Nat.reduceEqDiff, Nat.reduceLT, ↓reduceIte, reduceCtorEq, hl, e1, e3]
  rw [AW_region]
  have S17 : Sep h [] h9 ([.blk i1 [ul_0, ul_1, ul_2] 69] ++ [.blk i8 ([] ++ (.val (.pointer none)) :: (.val (.slice none 0 0)) :: []) 135, .buf i8 0 (.val (.pointer none)) (.val (.slice none 0 0)) 5 ([] : List UInt8)]) := S15.pick [0, 1, 2] (by decide) rfl
  obtain ⟨x18, qx18, hF⟩ := obind hF
  obtain ⟨b19, qb19, hF⟩ := obind hF
  obtain ⟨p20, u21, h22, ow25, S24⟩ := Sep.sbyte (T := tabOf K) (pre := []) (post := []) S17 bl_135_0 k128 n106 n68 qx18 qb19 m (by omega)
  have ow23 : acall Try.prog (hooksOf K) (drawnOf Try.prog (tabOf K)) m 68 [.ptr i8 0, .int .u8 97] h9 = some (.val .nilIface, h22) := ow25
  have S26 : Sep h [] h22 [.blk i1 [ul_0, ul_1, ul_2] 69, .blk i8 [p20, u21] 135, .buf i8 0 p20 u21 5 b19] := S24
  refine AE_joinR (fun e h' => h22 = h' ∧ e.length = 44 ∧ e.getD 1 .undef = .ptr i1 0 ∧ e.getD 3 .undef = .ptr i8 0) (by
    simp only [↓WE, WA, WL, aop, ofValue, ofCell, isConst, abin, acall1, abuiltin, aun, AV.cells, AV.one, Nat.reduceAdd, Int.reduceLT, Int.reduceLE, ↓WD, W0, evalOp, Nat.reduceEqDiff, Nat.reduceLT, ↓reduceIte, reduceCtorEq, hl, e1, e3, fa_135_0, ow23]
    refine ⟨rfl, ?_, ?_, ?_⟩ <;> simp only [List.length_set, W0, Nat.reduceEqDiff, Nat.reduceLT, ↓reduceIte, hl, e1, e3]) ?_
  rintro envg27 _ ⟨rfl, hl, e1, e3⟩
  try simp only [↓WD, W0, evalOp, Nat.reduceEqDiff, Nat.reduceLT, ↓reduceIte, reduceCtorEq, hl, e1, e3]
  rw [AW_drawn, AE_drawnK (Ksub.cons k16 (Ksub.cons k90 (Ksub.cons k116 (Ksub.cons k128 Ksub.nil)))) (by kernel_rfl)]
  have ol28 := S26.load (P := Try.prog) 0 rfl (t := 67) (off := 0) (v := ul_0) (by simp only [apart, ag_67, sz_67]; rfl)
  have ol29 := RO.len (P := Try.prog) sl_67 (S26.ro hul_0)
  rw [List.length_map] at ol29
  obtain ⟨y30, qy30, hF⟩ := obind hF
  have og31 := fun (cf : CallF) (g : AH) => tab_hook (cf := cf) k90 (args := [.int .i64 (l.xAdds.length : Int)]) (v := .str y30) ((kf_90_eq (l.xAdds.length : Int)).trans (by rw [qy30]; rfl)) g
  have S32 : Sep h [] h22 ([.blk i1 [ul_0, ul_1, ul_2] 69] ++ [.blk i8 ([] ++ p20 :: u21 :: []) 135, .buf i8 0 p20 u21 5 b19]) := S26.pick [0, 1, 2] (by decide) rfl
  obtain ⟨b33, qb33, hF⟩ := obind hF
  obtain ⟨p34, u35, h36, ow39, S38⟩ := Sep.swrite (T := tabOf K) (pre := []) (post := []) S32 bl_135_0 k128 n106 n66 qb33 m (by omega)
  have ow37 : acall Try.prog (hooksOf K) (drawnOf Try.prog (tabOf K)) m 66 [.ptr i8 0, .str y30] h22 = some (.tup [.int .i64 (y30.length : Int), .val .nilIface], h36) := ow39
  have S40 : Sep h [] h36 [.blk i1 [ul_0, ul_1, ul_2] 69, .blk i8 [p34, u35] 135, .buf i8 0 p34 u35 5 b33] := S38
  refine AE_joinR (fun e h' => h36 = h' ∧ e.length = 44 ∧ e.getD 1 .undef = .ptr i1 0 ∧ e.getD 3 .undef = .ptr i8 0) (by
    simp only [↓WE, WA, WL, aop, ofValue, ofCell, isConst, abin, acall1, abuiltin, aun, AV.cells, AV.one, Nat.reduceAdd, Int.reduceLT, Int.reduceLE, ↓WD, W0, evalOp, Nat.reduceEqDiff, Nat.reduceLT, ↓reduceIte, reduceCtorEq, hl, e1, e3, fa_135_0, fa_69_0, ol28, ol29, og31, ow37, tab_none n66]
    refine ⟨rfl, ?_, ?_, ?_⟩ <;> simp only [List.length_set, W0, Nat.reduceEqDiff, Nat.reduceLT, ↓reduceIte, hl, e1, e3]) ?_
  rintro envg41 _ ⟨rfl, hl, e1, e3⟩
  try simp only [↓WD, W0, evalOp, Nat.reduceEqDiff, Nat.reduceLT, ↓reduceIte, reduceCtorEq, hl, e1, e3]
  rw [AW_region]
  have ol42 := S40.load (P := Try.prog) 0 rfl (t := 67) (off := 0) (v := ul_0) (by simp only [apart, ag_67, sz_67]; rfl)
  have ol43 := RO.len (P := Try.prog) sl_67 (S40.ro hul_0)
  rw [List.length_map] at ol43
  refine AE_joinR (fun e h' => h36 = h' ∧ e.length = 44 ∧ e.getD 1 .undef = .ptr i1 0 ∧ e.getD 3 .undef = .ptr i8 0 ∧ e.getD 21 .undef = ul_0 ∧ e.getD 22 .undef = .int .i64 (l.xAdds.length : Int) ∧ e.getD 23 .undef = .int .i64 0) (by
    simp only [↓WE, WA, WL, aop, ofValue, ofCell, isConst, abin, acall1, abuiltin, aun, AV.cells, AV.one, Nat.reduceAdd, Int.reduceLT, Int.reduceLE, ↓WD, W0, evalOp, Nat.reduceEqDiff, Nat.reduceLT, ↓reduceIte, reduceCtorEq, hl, e1, e3, fa_69_0, ol42, ol43]
    refine ⟨rfl, ?_, ?_, ?_, ?_, ?_, ?_⟩ <;> simp only [List.length_set, W0, Nat.reduceEqDiff, Nat.reduceLT, ↓reduceIte, hl, e1, e3]) ?_
  rintro envg44 _ ⟨rfl, hl, e1, e3, e21, e22, e23⟩
  try simp only [↓WD, W0, evalOp, Nat.reduceEqDiff, Nat.reduceLT, ↓reduceIte, reduceCtorEq, hl, e1, e3, e21, e22, e23]
  obtain ⟨r117, qr117, hF⟩ := obind hF
  refine AW_lift (L_digest_Layer_1 l) (fun s e h' => ∃ (p80 : AV), ∃ (u81 : AV), e.length = 44 ∧ e.getD 1 .undef = .ptr i1 0 ∧ e.getD 3 .undef = .ptr i8 0 ∧ e.getD 21 .undef = ul_0 ∧ e.getD 22 .undef = .int .i64 (l.xAdds.length : Int) ∧ e.getD 23 .undef = .int .i64 s.2 ∧ Sep h [] h' [.blk i1 [ul_0, ul_1, ul_2] 69, .blk i8 [p80, u81] 135, .buf i8 0 p80 u81 5 s.1]) (fun r117 x e h' => ∃ (p118 : AV), ∃ (u119 : AV), x = .exit 0 ∧ e.length = 44 ∧ e.getD 1 .undef = .ptr i1 0 ∧ e.getD 3 .undef = .ptr i8 0 ∧ Sep h [] h' [.blk i1 [ul_0, ul_1, ul_2] 69, .blk i8 [p118, u119] 135, .buf i8 0 p118 u119 5 r117]) qr117 (by omega) ?_ ?_ ?_
  · rintro s envr117 h82 or117 ⟨p80, u81, hl, e1, e3, e21, e22, e23, S83⟩ wr117
    rw [L_digest_Layer_1] at wr117
    try simp only [↓WD, W0, evalOp, Nat.reduceEqDiff, Nat.reduceLT, ↓reduceIte, reduceCtorEq, hl, e1, e3, e21, e22, e23]
    rw [AW_region]
    refine AE_joinR (fun e h' => h82 = h' ∧ e.length = 44 ∧ e.getD 1 .undef = .ptr i1 0 ∧ e.getD 3 .undef = .ptr i8 0 ∧ e.getD 21 .undef = ul_0 ∧ e.getD 22 .undef = .int .i64 (l.xAdds.length : Int) ∧ e.getD 23 .undef = .int .i64 s.2 ∧ e.getD 24 .undef = .bool (decide (s.2 < (l.xAdds.length : Int)))) (by
      simp only [↓WE, WA, WL, aop, ofValue, ofCell, isConst, abin, acall1, abuiltin, aun, AV.cells, AV.one, Nat.reduceAdd, Int.reduceLT, Int.reduceLE, ↓WD, W0, evalOp, Nat.reduceEqDiff, Nat.reduceLT, ↓reduceIte, reduceCtorEq, hl, e1, e3, e21, e22, e23]
      refine ⟨rfl, ?_, ?_, ?_, ?_, ?_, ?_, ?_⟩ <;> simp only [List.length_set, W0, Nat.reduceEqDiff, Nat.reduceLT, ↓reduceIte, hl, e1, e3, e21, e22, e23]) ?_
    rintro envg84 _ ⟨rfl, hl, e1, e3, e21, e22, e23, e24⟩
    try simp only [↓WD, W0, evalOp, Nat.reduceEqDiff, Nat.reduceLT, ↓reduceIte, reduceCtorEq, hl, e1, e3, e21, e22, e23, e24]
    refine CondK_dec (fun c86 => ?_) (fun c86 => ?_)
    · rw [if_pos c86] at wr117
      try simp only [↓WD, W0, evalOp, Nat.reduceEqDiff, Nat.reduceLT, ↓reduceIte, reduceCtorEq, hl, e1, e3, e21, e22, e23, e24]
      rw [AW_region]
      obtain ⟨x87, qx87, wr117⟩ := obind wr117
      obtain ⟨i88, off89, oi90, hp91⟩ := RO.addr (P := Try.prog) sl_67 (S83.ro hul_0) qx87
      have ol92 := RO.ld (P := Try.prog) (S83.ro hul_0) hp91 qx87 (t := 75) (o := 0) (v := .agg [.str x87.xPath, .bool x87.xDir, .str x87.xData, .int .i64 x87.xMode, .int .i64 x87.xTime]) (by omega) (by simp only [apart, ag_75, sz_75]; rfl)
      simp only [Nat.add_zero] at ol92
      obtain ⟨i93, h94, oa95, S96⟩ := S83.alloc 75 [.str [], .bool false, .str [], .int .i64 0, .int .i64 0]
      have S98 : Sep h [] h94 [.blk i1 [ul_0, ul_1, ul_2] 69, .blk i8 [p80, u81] 135, .buf i8 0 p80 u81 5 s.1, .blk i93 [.str [], .bool false, .str [], .int .i64 0, .int .i64 0] 75] := S96
      obtain ⟨h99, os100, S101⟩ := S98.store (P := Try.prog) 3 rfl (t := 75) (off := 0) (v := .agg [.str x87.xPath, .bool x87.xDir, .str x87.xData, .int .i64 x87.xMode, .int .i64 x87.xTime]) (c' := [.str x87.xPath, .bool x87.xDir, .str x87.xData, .int .i64 x87.xMode, .int .i64 x87.xTime]) rfl sz_75 rfl (by simp) rfl
      have S102 : Sep h [] h99 [.blk i1 [ul_0, ul_1, ul_2] 69, .blk i8 [p80, u81] 135, .buf i8 0 p80 u81 5 s.1, .blk i93 [.str x87.xPath, .bool x87.xDir, .str x87.xData, .int .i64 x87.xMode, .int .i64 x87.xTime] 75] := S101
      refine AE_joinR (fun e h' => h99 = h' ∧ e.length = 44 ∧ e.getD 1 .undef = .ptr i1 0 ∧ e.getD 3 .undef = .ptr i8 0 ∧ e.getD 5 .undef = .ptr i93 0 ∧ e.getD 21 .undef = ul_0 ∧ e.getD 22 .undef = .int .i64 (l.xAdds.length : Int) ∧ e.getD 23 .undef = .int .i64 s.2) (by
        simp only [↓WE, WA, WL, aop, ofValue, ofCell, isConst, abin, acall1, abuiltin, aun, AV.cells, AV.one, Nat.reduceAdd, Int.reduceLT, Int.reduceLE, ↓WD, W0, evalOp, Nat.reduceEqDiff, Nat.reduceLT, ↓reduceIte, reduceCtorEq, hl, e1, e3, e21, e22, e23, e24, oi90, ol92, zero_75, oa95, os100]
        refine ⟨rfl, ?_, ?_, ?_, ?_, ?_, ?_, ?_⟩ <;> simp only [List.length_set, W0, Nat.reduceEqDiff, Nat.reduceLT, ↓reduceIte, hl, e1, e3, e21, e22, e23, e24]) ?_
      rintro envg103 _ ⟨rfl, hl, e1, e3, e5, e21, e22, e23⟩
      try simp only [↓WD, W0, evalOp, Nat.reduceEqDiff, Nat.reduceLT, ↓reduceIte, reduceCtorEq, hl, e1, e3, e5, e21, e22, e23]
      rw [AW_region]
      have ol104 := S102.load (P := Try.prog) 3 rfl (t := 75) (off := 0) (v := .agg [.str x87.xPath, .bool x87.xDir, .str x87.xData, .int .i64 x87.xMode, .int .i64 x87.xTime]) (by simp only [apart, ag_75, sz_75]; rfl)
      obtain ⟨y105, qy105, wr117⟩ := obind wr117
      have S107 : Sep h [] h99 ([.blk i1 [ul_0, ul_1, ul_2] 69, .blk i93 [.str x87.xPath, .bool x87.xDir, .str x87.xData, .int .i64 x87.xMode, .int .i64 x87.xTime] 75] ++ [.blk i8 [p80, u81] 135, .buf i8 0 p80 u81 5 s.1]) := S102.pick [0, 3, 1, 2] (by decide) rfl
      obtain ⟨v111, h108, og106, zp0q110, zv0q110, rfl, S109⟩ := (W_digest_writer_node k16 k90 k116 k128 n66 n68 n106 n118 n91 m (by omega) h99 i8 p80 u81 (⟨s.1⟩ : Gdigest_writer) S107.okA S107.ndA x87 qy105).out
      have S112 : Sep h [] h108 [.blk i1 [ul_0, ul_1, ul_2] 69, .blk i93 [.str x87.xPath, .bool x87.xDir, .str x87.xData, .int .i64 x87.xMode, .int .i64 x87.xTime] 75, .blk i8 [zp0q110, zv0q110] 135, .buf i8 0 zp0q110 zv0q110 5 y105.xBuilder] := S107.callN S109
      refine AE_joinR (fun e h' => h108 = h' ∧ e.length = 44 ∧ e.getD 1 .undef = .ptr i1 0 ∧ e.getD 3 .undef = .ptr i8 0 ∧ e.getD 21 .undef = ul_0 ∧ e.getD 22 .undef = .int .i64 (l.xAdds.length : Int) ∧ e.getD 23 .undef = .int .i64 s.2) (by
        simp only [↓WE, WA, WL, aop, ofValue, ofCell, isConst, abin, acall1, abuiltin, aun, AV.cells, AV.one, Nat.reduceAdd, Int.reduceLT, Int.reduceLE, ↓WD, W0, evalOp, Nat.reduceEqDiff, Nat.reduceLT, ↓reduceIte, reduceCtorEq, hl, e1, e3, e5, e21, e22, e23, ol104, og106]
        refine ⟨rfl, ?_, ?_, ?_, ?_, ?_, ?_⟩ <;> simp only [List.length_set, W0, Nat.reduceEqDiff, Nat.reduceLT, ↓reduceIte, hl, e1, e3, e5, e21, e22, e23]) ?_
      rintro envg113 _ ⟨rfl, hl, e1, e3, e21, e22, e23⟩
      try simp only [↓WD, W0, evalOp, Nat.reduceEqDiff, Nat.reduceLT, ↓reduceIte, reduceCtorEq, hl, e1, e3, e21, e22, e23]
      rw [AW_region]
      refine AE_joinR (fun e h' => h108 = h' ∧ e.length = 44 ∧ e.getD 1 .undef = .ptr i1 0 ∧ e.getD 3 .undef = .ptr i8 0 ∧ e.getD 21 .undef = ul_0 ∧ e.getD 22 .undef = .int .i64 (l.xAdds.length : Int) ∧ e.getD 23 .undef = .int .i64 (IntKind.i64.wrap (s.2 + 1))) (by
        simp only [↓WE, WA, WL, aop, ofValue, ofCell, isConst, abin, acall1, abuiltin, aun, AV.cells, AV.one, Nat.reduceAdd, Int.reduceLT, Int.reduceLE, ↓WD, W0, evalOp, Nat.reduceEqDiff, Nat.reduceLT, ↓reduceIte, reduceCtorEq, hl, e1, e3, e21, e22, e23]
        refine ⟨rfl, ?_, ?_, ?_, ?_, ?_, ?_⟩ <;> simp only [List.length_set, W0, Nat.reduceEqDiff, Nat.reduceLT, ↓reduceIte, hl, e1, e3, e21, e22, e23]) ?_
      rintro envg114 _ ⟨rfl, hl, e1, e3, e21, e22, e23⟩
      try simp only [↓WD, W0, evalOp, Nat.reduceEqDiff, Nat.reduceLT, ↓reduceIte, reduceCtorEq, hl, e1, e3, e21, e22, e23]
      obtain rfl := Option.some.inj wr117
      rw [KP_nil, QL_normal]
      refine ⟨_, rfl, zp0q110, zv0q110, ?_, ?_, ?_, ?_, ?_, ?_, S112.pick [0, 2, 3] (by decide) rfl⟩ <;> simp only [List.length_set, W0, Nat.reduceEqDiff, Nat.reduceLT, ↓reduceIte, hl, e1, e3, e21, e22, e23]
    · rw [if_neg c86] at wr117
      try simp only [↓WD, W0, evalOp, Nat.reduceEqDiff, Nat.reduceLT, ↓reduceIte, reduceCtorEq, hl, e1, e3, e21, e22, e23, e24]
      obtain rfl := Option.some.inj wr117
      rw [KP_nil, QL_exit]
      refine ⟨_, rfl, p80, u81, rfl, ?_, ?_, ?_, S83⟩ <;> simp only [List.length_set, W0, Nat.reduceEqDiff, Nat.reduceLT, ↓reduceIte, hl, e1, e3, e21, e22, e23, e24]
  · refine ⟨p34, u35, ?_, ?_, ?_, ?_, ?_, ?_, S40⟩ <;> simp only [List.length_set, W0, Nat.reduceEqDiff, Nat.reduceLT, ↓reduceIte, hl, e1, e3, e21, e22, e23]
  · rintro x envr117 h120 ⟨p118, u119, rfl, hl, e1, e3, S121⟩
    try simp only [↓WD, W0, evalOp, Nat.reduceEqDiff, Nat.reduceLT, ↓reduceIte, reduceCtorEq, hl, e1, e3]
    rw [AW_region]
    have ol122 := S121.load (P := Try.prog) 0 rfl (t := 51) (off := 1) (v := ul_1) (by simp only [apart, ag_51, sz_51]; rfl)
    obtain ⟨y123, qy123, hF⟩ := obind hF
    have S125 : Sep h [] h120 ([.blk i1 [ul_0, ul_1, ul_2] 69] ++ [.blk i8 [p118, u119] 135, .buf i8 0 p118 u119 5 r117]) := S121.pick [0, 1, 2] (by decide) rfl
    obtain ⟨v129, h126, og124, zp0q128, zv0q128, rfl, S127⟩ := (W_digest_writer_paths k90 k128 n66 n68 n106 n118 n92 m (by omega) h120 i8 p118 u119 (⟨r117⟩ : Gdigest_writer) S125.okA S125.ndA 119 ul_1 l.xWhites (S121.ro hul_1) (S121.away_ro hul_1 (Or.inr fun _ _ => List.not_mem_nil) [1, 2] rfl) qy123).out
    have S130 : Sep h [] h126 [.blk i1 [ul_0, ul_1, ul_2] 69, .blk i8 [zp0q128, zv0q128] 135, .buf i8 0 zp0q128 zv0q128 5 y123.xBuilder] := S125.callN S127
    refine AE_joinR (fun e h' => h126 = h' ∧ e.length = 44 ∧ e.getD 1 .undef = .ptr i1 0 ∧ e.getD 3 .undef = .ptr i8 0) (by
      simp only [↓WE, WA, WL, aop, ofValue, ofCell, isConst, abin, acall1, abuiltin, aun, AV.cells, AV.one, Nat.reduceAdd, Int.reduceLT, Int.reduceLE, ↓WD, W0, evalOp, Nat.reduceEqDiff, Nat.reduceLT, ↓reduceIte, reduceCtorEq, hl, e1, e3, fa_69_1, ol122, og124]
      refine ⟨rfl, ?_, ?_, ?_⟩ <;> simp only [List.length_set, W0, Nat.reduceEqDiff, Nat.reduceLT, ↓reduceIte, hl, e1, e3]) ?_
    rintro envg131 _ ⟨rfl, hl, e1, e3⟩
    try simp only [↓WD, W0, evalOp, Nat.reduceEqDiff, Nat.reduceLT, ↓reduceIte, reduceCtorEq, hl, e1, e3]
    rw [AW_region]
    have ol132 := S130.load (P := Try.prog) 0 rfl (t := 51) (off := 2) (v := ul_2) (by simp only [apart, ag_51, sz_51]; rfl)
    obtain ⟨y133, qy133, hF⟩ := obind hF
    have S135 : Sep h [] h126 ([.blk i1 [ul_0, ul_1, ul_2] 69] ++ [.blk i8 [zp0q128, zv0q128] 135, .buf i8 0 zp0q128 zv0q128 5 y123.xBuilder]) := S130.pick [0, 1, 2] (by decide) rfl
    obtain ⟨v139, h136, og134, zp0q138, zv0q138, rfl, S137⟩ := (W_digest_writer_paths k90 k128 n66 n68 n106 n118 n92 m (by omega) h126 i8 zp0q128 zv0q128 y123 S135.okA S135.ndA 111 ul_2 l.xOpaques (S130.ro hul_2) (S130.away_ro hul_2 (Or.inr fun _ _ => List.not_mem_nil) [1, 2] rfl) qy133).out
    have S140 : Sep h [] h136 [.blk i1 [ul_0, ul_1, ul_2] 69, .blk i8 [zp0q138, zv0q138] 135, .buf i8 0 zp0q138 zv0q138 5 y133.xBuilder] := S135.callN S137
    refine AE_joinR (fun e h' => h136 = h' ∧ e.length = 44 ∧ e.getD 3 .undef = .ptr i8 0) (by
      simp only [↓WE, WA, WL, aop, ofValue, ofCell, isConst, abin, acall1, abuiltin, aun, AV.cells, AV.one, Nat.reduceAdd, Int.reduceLT, Int.reduceLE, ↓WD, W0, evalOp, Nat.reduceEqDiff, Nat.reduceLT, ↓reduceIte, reduceCtorEq, hl, e1, e3, fa_69_2, ol132, og134]
      refine ⟨rfl, ?_, ?_⟩ <;> simp only [List.length_set, W0, Nat.reduceEqDiff, Nat.reduceLT, ↓reduceIte, hl, e1, e3]) ?_
    rintro envg141 _ ⟨rfl, hl, e3⟩
    try simp only [↓WD, W0, evalOp, Nat.reduceEqDiff, Nat.reduceLT, ↓reduceIte, reduceCtorEq, hl, e3]
    rw [AW_region]
    have S142 : Sep h [] h136 ([.blk i1 [ul_0, ul_1, ul_2] 69] ++ [.blk i8 ([] ++ zp0q138 :: zv0q138 :: []) 135, .buf i8 0 zp0q138 zv0q138 5 y133.xBuilder]) := S140.pick [0, 1, 2] (by decide) rfl
    obtain ⟨_, q147, hF⟩ := obind hF
    obtain ⟨h143, ow146, S145⟩ := Sep.sstring (T := tabOf K) (pre := []) (post := []) S142 n67 (chkCap_le q147) m (by omega)
    have ow144 : acall Try.prog (hooksOf K) (drawnOf Try.prog (tabOf K)) m 67 [.ptr i8 0] h136 = some (.str y133.xBuilder, h143) := ow146
    have S148 : Sep h [] h143 [.blk i1 [ul_0, ul_1, ul_2] 69, .blk i8 [zp0q138, zv0q138] 135] := S145
    obtain ⟨y149, qy149, hF⟩ := obind hF
    have og150 := fun (D : Drawn) (n : Nat) (g : AH) => call_hook (P := Try.prog) (D := D) k16 n (args := [.str y133.xBuilder]) (v := .str y149) ((kf_16_eq y133.xBuilder).trans (by rw [qy149]; rfl)) g
    refine AE_joinR (fun e h' => h143 = h' ∧ e.length = 44 ∧ e.getD 2 .undef = .str y149) (by
      simp only [↓WE, WA, WL, aop, ofValue, ofCell, isConst, abin, acall1, abuiltin, aun, AV.cells, AV.one, Nat.reduceAdd, Int.reduceLT, Int.reduceLE, ↓WD, W0, evalOp, Nat.reduceEqDiff, Nat.reduceLT, ↓reduceIte, reduceCtorEq, hl, e3, fa_135_0, ow144, og150]
      refine ⟨rfl, ?_, ?_⟩ <;> simp only [List.length_set, W0, Nat.reduceEqDiff, Nat.reduceLT, ↓reduceIte, hl, e3]) ?_
    rintro envg151 _ ⟨rfl, hl, e2⟩
    try simp only [↓WD, W0, evalOp, Nat.reduceEqDiff, Nat.reduceLT, ↓reduceIte, reduceCtorEq, hl, e2]
    refine KP_ret (vs := [.str y149]) (by simp only [aresults, aresult, gs, List.length_set, Nat.reduceEqDiff, Nat.reduceLT, ↓reduceIte, hl, e2]) ?_
    obtain rfl := Option.some.inj hF
    exact ⟨rfl, S148.pick [] (by decide) rfl⟩
theorem W_law39_awake {K : PureK} (k15 : K 15 = some kf_15) (k16 : K 16 = some kf_16) (k49 : K 49 = some kf_49) (k90 : K 90 = some kf_90) (k116 : K 116 = some kf_116) (k128 : K 128 = some hb77) (n46 : K 46 = none) (n51 : K 51 = none) (n56 : K 56 = none) (n66 : K 66 = none) (n67 : K 67 = none) (n68 : K 68 = none) (n91 : K 91 = none) (n92 : K 92 = none) (n106 : K 106 = none) (n118 : K 118 = none) (n44 : K 44 = none) (m : Nat) (hm : NF + 7 ≤ m) (h : AH)  {r : Bool} (hF : F_law39_awake  = some r) :
    AR (acall Try.prog (hooksOf K) (drawnOf Try.prog (tabOf K)) m 44 [] h) (fun v h' => v = .bool r ∧ Sep h [] h' []) := by
  obtain ⟨m, rfl⟩ : ∃ k, m = k + 1 := ⟨m - 1, by omega⟩
  refine AR_call (hooksOf_none n44) Try.func44 rfl _ _ fun env hl he => ?_
  simp only [Try.f44] at hl ⊢
  simp only [List.length_cons, List.length_nil, Nat.reduceAdd, Nat.reduceSub] at hl
  clear he
  have S0 : Sep h [] h [] := Sep.nil h
  rw [F_law39_awake] at hF
  try simp only [↓WD, W0, evalOp, Nat.reduceEqDiff, Nat.reduceLT, ↓reduceIte, reduceCtorEq, hl]
  rw [AW_region]
  refine AE_joinR (fun e h' => h = h' ∧ e.length = 34) (by
    simp only [↓WE, WA, WL, aop, ofValue, ofCell, isConst, abin, acall1, abuiltin, aun, AV.cells, AV.one, Nat.reduceAdd, Int.reduceLT, Int.reduceLE, ↓WD, W0, evalOp, Nat.reduceEqDiff, Nat.reduceLT, ↓reduceIte, reduceCtorEq, hl]
    exact ⟨rfl, (by simp only [List.length_set, hl])⟩) ?_
  rintro envg1 _ ⟨rfl, hl⟩
  try simp only [↓WD, W0, evalOp, Nat.reduceEqDiff, Nat.reduceLT, ↓reduceIte, reduceCtorEq, hl]
  rw [AW_region]
  obtain ⟨i2, h3, oa4, S5⟩ := S0.alloc 75 [.str [], .bool false, .str [], .int .i64 0, .int .i64 0]
  have S7 : Sep h [] h3 [.blk i2 [.str [], .bool false, .str [], .int .i64 0, .int .i64 0] 75] := S5
  obtain ⟨h8, os9, S10⟩ := S7.store (P := Try.prog) 0 rfl (t := 75) (off := 0) (v := .agg [.str [97], .bool false, .str [120], .int .i64 420, .int .i64 0]) (c' := [.str [97], .bool false, .str [120], .int .i64 420, .int .i64 0]) rfl sz_75 rfl (by simp) rfl
  have S11 : Sep h [] h8 [.blk i2 [.str [97], .bool false, .str [120], .int .i64 420, .int .i64 0] 75] := S10
  refine AE_joinR (fun e h' => h8 = h' ∧ e.length = 34 ∧ e.getD 1 .undef = .ptr i2 0) (by
    simp only [↓WE, WA, WL, aop, ofValue, ofCell, isConst, abin, acall1, abuiltin, aun, AV.cells, AV.one, Nat.reduceAdd, Int.reduceLT, Int.reduceLE, ↓WD, W0, evalOp, Nat.reduceEqDiff, Nat.reduceLT, ↓reduceIte, reduceCtorEq, hl, bd_75_0_2_3, zero_75, oa4, os9]
    refine ⟨rfl, ?_, ?_⟩ <;> simp only [List.length_set, W0, Nat.reduceEqDiff, Nat.reduceLT, ↓reduceIte, hl]) ?_
  rintro envg12 _ ⟨rfl, hl, e1⟩
  try simp only [↓WD, W0, evalOp, Nat.reduceEqDiff, Nat.reduceLT, ↓reduceIte, reduceCtorEq, hl, e1]
  rw [AW_drawn, AE_drawnK (Ksub.cons k15 (Ksub.cons k16 (Ksub.cons k49 (Ksub.cons k90 (Ksub.cons k116 (Ksub.cons k128 Ksub.nil)))))) (by kernel_rfl)]
  have ol13 := S11.load (P := Try.prog) 0 rfl (t := 75) (off := 0) (v := .agg [.str [97], .bool false, .str [120], .int .i64 420, .int .i64 0]) (by simp only [apart, ag_75, sz_75]; rfl)
  obtain ⟨u14, h15, ob16, S17⟩ := Sep.build (P := Try.prog) sl_67 S11 [.agg [.str [97], .bool false, .str [120], .int .i64 420, .int .i64 0]] (([(⟨[97], false, [120], 420, 0⟩ : Gapi_Node)] : List Gapi_Node).map Gapi_Node.cells) rfl (by simp [Gapi_Node.cells]) (by simp)
  have ob16 : abuildSlice Try.prog 67 1 [(0, .agg [.str [97], .bool false, .str [120], .int .i64 420, .int .i64 0])] h8 = some (u14, h15) := ob16
  have S19 : Sep h [] h15 [.blk i2 [.str [97], .bool false, .str [120], .int .i64 420, .int .i64 0] 75, .row u14 75 5 (([(⟨[97], false, [120], 420, 0⟩ : Gapi_Node)] : List Gapi_Node).map Gapi_Node.cells)] := S17
  obtain ⟨y20, qy20, hF⟩ := obind hF
  have og21 := fun (cf : CallF) (g : AH) => tab_hook (cf := cf) k15 (args := [.str [120]]) (v := .str y20) ((kf_15_eq [120]).trans (by rw [qy20]; rfl)) g
  obtain ⟨y22, qy22, hF⟩ := obind hF
  obtain ⟨u26, h24, og23, _, rfl, S25⟩ := (W_digest_Find k16 n56 m (by omega) h15 u14 ([(⟨[97], false, [120], 420, 0⟩ : Gapi_Node)] : List Gapi_Node) (S19.row_ro (i := 1) rfl) y20 qy22).out
  have S29 : Sep h [] h24 [.blk i2 [.str [97], .bool false, .str [120], .int .i64 420, .int .i64 0] 75, .row u14 75 5 (([(⟨[97], false, [120], 420, 0⟩ : Gapi_Node)] : List Gapi_Node).map Gapi_Node.cells), .row u26 9 1 (y22.map cellS)] := S19.call0 S25
  refine AE_joinR (fun e h' => h24 = h' ∧ e.length = 34 ∧ e.getD 1 .undef = .ptr i2 0 ∧ e.getD 2 .undef = u26) (by
    simp only [↓WE, WA, WL, aop, ofValue, ofCell, isConst, abin, acall1, abuiltin, aun, AV.cells, AV.one, Nat.reduceAdd, Int.reduceLT, Int.reduceLE, ↓WD, W0, evalOp, Nat.reduceEqDiff, Nat.reduceLT, ↓reduceIte, reduceCtorEq, hl, e1, ol13, ob16, og21, og23, tab_none n56]
    refine ⟨rfl, ?_, ?_, ?_⟩ <;> simp only [List.length_set, W0, Nat.reduceEqDiff, Nat.reduceLT, ↓reduceIte, hl, e1]) ?_
  rintro envg30 _ ⟨rfl, hl, e1, e2⟩
  try simp only [↓WD, W0, evalOp, Nat.reduceEqDiff, Nat.reduceLT, ↓reduceIte, reduceCtorEq, hl, e1, e2]
  rw [AW_region]
  obtain ⟨j69, qj69, hF⟩ := obind hF
  refine AE_joinR (fun e h' => e.length = 34 ∧ e.getD 0 .undef = .bool j69 ∧ Sep h [] h' []) ?_ ?_
  · obtain ⟨y31, qy31, qj69⟩ := obind qj69
    obtain ⟨v35, h33, og32, rfl, S34⟩ := (W_digest_Tree k16 k90 k116 k128 n66 n67 n68 n91 n106 n118 n51 m (by omega) h24 (.val (.slice none 0 0)) ([] : List Gapi_Node) (show RO 5 (.val (.slice none 0 0)) h24 ((([] : List Gapi_Node) : List Gapi_Node).map Gapi_Node.cells) from ⟨fun x hx => (by cases hx), .inl ⟨rfl, rfl⟩⟩) qy31).out
    have S36 : Sep h [] h33 [.blk i2 [.str [97], .bool false, .str [120], .int .i64 420, .int .i64 0] 75, .row u14 75 5 (([(⟨[97], false, [120], 420, 0⟩ : Gapi_Node)] : List Gapi_Node).map Gapi_Node.cells), .row u26 9 1 (y22.map cellS)] := S29.call0 S34
    obtain ⟨y37, qy37, qj69⟩ := obind qj69
    have og38 := fun (D : Drawn) (n : Nat) (g : AH) => call_hook (P := Try.prog) (D := D) k15 n (args := [.str []]) (v := .str y37) ((kf_15_eq []).trans (by rw [qy37]; rfl)) g
    simp only [↓WE, WA, WL, aop, ofValue, ofCell, isConst, abin, acall1, abuiltin, aun, AV.cells, AV.one, Nat.reduceAdd, Int.reduceLT, Int.reduceLE, ↓WD, W0, evalOp, Nat.reduceEqDiff, Nat.reduceLT, ↓reduceIte, reduceCtorEq, hl, e1, e2, og32, og38]
    refine GuardW_boo (fun c39 => ?_) (fun c39 => ?_)
    · rw [if_pos c39] at qj69
      have d40 := c39
      have ol42 := S36.load (P := Try.prog) 0 rfl (t := 75) (off := 0) (v := .agg [.str [97], .bool false, .str [120], .int .i64 420, .int .i64 0]) (by simp only [apart, ag_75, sz_75]; rfl)
      obtain ⟨y43, qy43, qj69⟩ := obind qj69
      have og44 := fun (D : Drawn) (n : Nat) (g : AH) => call_hook (P := Try.prog) (D := D) k49 n (args := [.agg [.str [97], .bool false, .str [120], .int .i64 420, .int .i64 0]]) (v := .str y43) ((kf_49_eq (⟨[97], false, [120], 420, 0⟩ : Gapi_Node)).trans (by rw [qy43]; rfl)) g
      have ol45 := fun g : AH => alen_str (P := Try.prog) (h := g) (l := y43) Try.underlying9
      simp only [↓WE, WA, WL, aop, ofValue, ofCell, isConst, abin, acall1, abuiltin, aun, AV.cells, AV.one, Nat.reduceAdd, Int.reduceLT, Int.reduceLE, ↓WD, W0, evalOp, Nat.reduceEqDiff, Nat.reduceLT, ↓reduceIte, reduceCtorEq, hl, e1, e2, og32, og38, ol42, og44, ol45, d40]
      refine GuardW_boo (fun c46 => ?_) (fun c46 => ?_)
      · rw [if_pos c46] at qj69
        have d47 := c46
        have ol49 := RO.len (P := Try.prog) sl_51 (S36.row_ro (i := 2) rfl)
        rw [List.length_map] at ol49
        simp only [↓WE, WA, WL, aop, ofValue, ofCell, isConst, abin, acall1, abuiltin, aun, AV.cells, AV.one, Nat.reduceAdd, Int.reduceLT, Int.reduceLE, ↓WD, W0, evalOp, Nat.reduceEqDiff, Nat.reduceLT, ↓reduceIte, reduceCtorEq, hl, e1, e2, og32, og38, ol42, og44, ol45, ol49, d40, d47]
        refine GuardW_boo (fun c50 => ?_) (fun c50 => ?_)
        · rw [if_pos c50] at qj69
          have d51 := c50
          obtain ⟨x53, qx53, qj69⟩ := obind qj69
          obtain ⟨i54, off55, oi56, hp57⟩ := RO.addr (P := Try.prog) sl_51 (S36.row_ro (i := 2) rfl) qx53
          have ol58 := RO.ld (P := Try.prog) (S36.row_ro (i := 2) rfl) hp57 qx53 (t := 9) (o := 0) (v := .str x53) (by omega) (by simp only [apart, ag_9, sz_9]; rfl)
          simp only [Nat.add_zero] at ol58
          simp only [↓WE, WA, WL, aop, ofValue, ofCell, isConst, abin, acall1, abuiltin, aun, AV.cells, AV.one, Nat.reduceAdd, Int.reduceLT, Int.reduceLE, ↓WD, W0, evalOp, Nat.reduceEqDiff, Nat.reduceLT, ↓reduceIte, reduceCtorEq, hl, e1, e2, og32, og38, ol42, og44, ol45, ol49, oi56, ol58, d40, d47, d51]
          refine GuardW_boo (fun c59 => ?_) (fun c59 => ?_)
          · rw [if_pos c59] at qj69
            have d60 := c59
            obtain ⟨y62, qy62, qj69⟩ := obind qj69
            obtain ⟨v66, h64, og63, rfl, S65⟩ := (W_digest_Layer k16 k90 k116 k128 n66 n67 n68 n91 n92 n106 n118 n46 m (by omega) h33 (.val (.slice none 0 0)) (.val (.slice none 0 0)) (.val (.slice none 0 0)) (⟨([] : List Gapi_Node), ([] : List (List UInt8)), ([] : List (List UInt8))⟩ : Gapi_Layer) (show RO 5 (.val (.slice none 0 0)) h33 ((([] : List Gapi_Node) : List Gapi_Node).map Gapi_Node.cells) from ⟨fun x hx => (by cases hx), .inl ⟨rfl, rfl⟩⟩) (show RO 1 (.val (.slice none 0 0)) h33 ((([] : List (List UInt8)) : List (List UInt8)).map cellS) from ⟨fun x hx => (by cases hx), .inl ⟨rfl, rfl⟩⟩) (show RO 1 (.val (.slice none 0 0)) h33 ((([] : List (List UInt8)) : List (List UInt8)).map cellS) from ⟨fun x hx => (by cases hx), .inl ⟨rfl, rfl⟩⟩) qy62).out
            have S67 : Sep h [] h64 [.blk i2 [.str [97], .bool false, .str [120], .int .i64 420, .int .i64 0] 75, .row u14 75 5 (([(⟨[97], false, [120], 420, 0⟩ : Gapi_Node)] : List Gapi_Node).map Gapi_Node.cells), .row u26 9 1 (y22.map cellS)] := S36.call0 S65
            have ol68 := fun g : AH => alen_str (P := Try.prog) (h := g) (l := y62) Try.underlying9
            simp only [↓WE, WA, WL, aop, ofValue, ofCell, isConst, abin, acall1, abuiltin, aun, AV.cells, AV.one, Nat.reduceAdd, Int.reduceLT, Int.reduceLE, ↓WD, W0, evalOp, Nat.reduceEqDiff, Nat.reduceLT, ↓reduceIte, reduceCtorEq, hl, e1, e2, og32, og38, ol42, og44, ol45, ol49, oi56, ol58, bd_69_, og63, ol68, d40, d47, d51, d60]
            obtain rfl := Option.some.inj qj69
            refine ⟨?_, ?_, S67.pick [] (by decide) rfl⟩ <;> simp only [List.length_set, W0, Nat.reduceEqDiff, Nat.reduceLT, ↓reduceIte, hl, e1, e2]
          · rw [if_neg (nf c59)] at qj69
            have d61 := c59
            simp only [↓WE, WA, WL, aop, ofValue, ofCell, isConst, abin, acall1, abuiltin, aun, AV.cells, AV.one, Nat.reduceAdd, Int.reduceLT, Int.reduceLE, ↓WD, W0, evalOp, Nat.reduceEqDiff, Nat.reduceLT, ↓reduceIte, reduceCtorEq, hl, e1, e2, og32, og38, ol42, og44, ol45, ol49, oi56, ol58, d40, d47, d51, d61]
            obtain rfl := Option.some.inj qj69
            refine ⟨?_, ?_, S36.pick [] (by decide) rfl⟩ <;> simp only [List.length_set, W0, Nat.reduceEqDiff, Nat.reduceLT, ↓reduceIte, hl, e1, e2]
        · rw [if_neg (nf c50)] at qj69
          have d52 := c50
          simp only [↓WE, WA, WL, aop, ofValue, ofCell, isConst, abin, acall1, abuiltin, aun, AV.cells, AV.one, Nat.reduceAdd, Int.reduceLT, Int.reduceLE, ↓WD, W0, evalOp, Nat.reduceEqDiff, Nat.reduceLT, ↓reduceIte, reduceCtorEq, hl, e1, e2, og32, og38, ol42, og44, ol45, ol49, d40, d47, d52]
          obtain rfl := Option.some.inj qj69
          refine ⟨?_, ?_, S36.pick [] (by decide) rfl⟩ <;> simp only [List.length_set, W0, Nat.reduceEqDiff, Nat.reduceLT, ↓reduceIte, hl, e1, e2]
      · rw [if_neg (nf c46)] at qj69
        have d48 := c46
        simp only [↓WE, WA, WL, aop, ofValue, ofCell, isConst, abin, acall1, abuiltin, aun, AV.cells, AV.one, Nat.reduceAdd, Int.reduceLT, Int.reduceLE, ↓WD, W0, evalOp, Nat.reduceEqDiff, Nat.reduceLT, ↓reduceIte, reduceCtorEq, hl, e1, e2, og32, og38, ol42, og44, ol45, d40, d48]
        obtain rfl := Option.some.inj qj69
        refine ⟨?_, ?_, S36.pick [] (by decide) rfl⟩ <;> simp only [List.length_set, W0, Nat.reduceEqDiff, Nat.reduceLT, ↓reduceIte, hl, e1, e2]
    · rw [if_neg (nf c39)] at qj69
      have d41 := c39
      simp only [↓WE, WA, WL, aop, ofValue, ofCell, isConst, abin, acall1, abuiltin, aun, AV.cells, AV.one, Nat.reduceAdd, Int.reduceLT, Int.reduceLE, ↓WD, W0, evalOp, Nat.reduceEqDiff, Nat.reduceLT, ↓reduceIte, reduceCtorEq, hl, e1, e2, og32, og38, d41]
      obtain rfl := Option.some.inj qj69
      refine ⟨?_, ?_, S36.pick [] (by decide) rfl⟩ <;> simp only [List.length_set, W0, Nat.reduceEqDiff, Nat.reduceLT, ↓reduceIte, hl, e1, e2]
  · rintro envj69 h71 ⟨hl, e0, S70⟩
    try simp only [↓WD, W0, evalOp, Nat.reduceEqDiff, Nat.reduceLT, ↓reduceIte, reduceCtorEq, hl, e0]
    refine KP_ret (vs := [.bool j69]) (by simp only [aresults, aresult, gs, List.length_set, Nat.reduceEqDiff, Nat.reduceLT, ↓reduceIte, hl, e0]) ?_
    obtain rfl := Option.some.inj hF
    exact ⟨rfl, S70⟩
theorem W_law24_Few {K : PureK} (n48 : K 48 = none) (m : Nat) (hm : NF + 1 ≤ m) (h : AH) (ut : AV) (t : List Gapi_Node) (hut : RO 5 ut h (t.map Gapi_Node.cells)) (most_ : Int) {r : Bool} (hF : F_law24_Few t most_ = some r) :
    AR (acall Try.prog (hooksOf K) (drawnOf Try.prog (tabOf K)) m 48 [ut, .int .i64 most_] h) (fun v h' => v = .bool r ∧ Sep h [] h' []) := by
  obtain ⟨m, rfl⟩ : ∃ k, m = k + 1 := ⟨m - 1, by omega⟩
  refine AR_call (hooksOf_none n48) Try.func48 rfl _ _ fun env hl he => ?_
  have e0 := he 0
  have e1 := he 1
  simp only [List.getD_cons_zero, List.getD_cons_succ] at e0 e1
  simp only [Try.f48] at hl ⊢
  simp only [List.length_cons, List.length_nil, Nat.reduceAdd, Nat.reduceSub] at hl
  clear he
  have S0 : Sep h [] h [] := Sep.nil h
  rw [F_law24_Few] at hF
  try simp only [↓WD, W0, evalOp, Nat.reduceEqDiff, Nat.reduceLT, ↓reduceIte, reduceCtorEq, hl, e0, e1]
  rw [AW_region]
  refine AE_joinR (fun e h' => h = h' ∧ e.length = 28 ∧ e.getD 0 .undef = ut ∧ e.getD 1 .undef = .int .i64 most_) (by
    simp only [↓WE, WA, WL, aop, ofValue, ofCell, isConst, abin, acall1, abuiltin, aun, AV.cells, AV.one, Nat.reduceAdd, Int.reduceLT, Int.reduceLE, ↓WD, W0, evalOp, Nat.reduceEqDiff, Nat.reduceLT, ↓reduceIte, reduceCtorEq, hl, e0, e1]
    refine ⟨rfl, ?_, ?_, ?_⟩ <;> simp only [List.length_set, W0, Nat.reduceEqDiff, Nat.reduceLT, ↓reduceIte, hl, e0, e1]) ?_
  rintro envg1 _ ⟨rfl, hl, e0, e1⟩
  try simp only [↓WD, W0, evalOp, Nat.reduceEqDiff, Nat.reduceLT, ↓reduceIte, reduceCtorEq, hl, e0, e1]
  rw [AW_region]
  have ol2 := RO.len (P := Try.prog) sl_67 (S0.ro hut)
  rw [List.length_map] at ol2
  refine AE_joinR (fun e h' => h = h' ∧ e.length = 28 ∧ e.getD 0 .undef = ut ∧ e.getD 10 .undef = .bool (decide ((t.length : Int) > most_))) (by
    simp only [↓WE, WA, WL, aop, ofValue, ofCell, isConst, abin, acall1, abuiltin, aun, AV.cells, AV.one, Nat.reduceAdd, Int.reduceLT, Int.reduceLE, ↓WD, W0, evalOp, Nat.reduceEqDiff, Nat.reduceLT, ↓reduceIte, reduceCtorEq, hl, e0, e1, ol2]
    refine ⟨rfl, ?_, ?_, ?_⟩ <;> simp only [List.length_set, W0, Nat.reduceEqDiff, Nat.reduceLT, ↓reduceIte, hl, e0, e1]) ?_
  rintro envg3 _ ⟨rfl, hl, e0, e10⟩
  try simp only [↓WD, W0, evalOp, Nat.reduceEqDiff, Nat.reduceLT, ↓reduceIte, reduceCtorEq, hl, e0, e10]
  refine CondK_dec (fun c6 => ?_) (fun c6 => ?_)
  · rw [if_pos c6] at hF
    try simp only [↓WD, W0, evalOp, Nat.reduceEqDiff, Nat.reduceLT, ↓reduceIte, reduceCtorEq, hl, e0, e10]
    rw [AW_region]
    refine AE_joinR (fun e h' => h = h' ∧ e.length = 28 ∧ e.getD 4 .undef = .bool false) (by
      simp only [↓WE, WA, WL, aop, ofValue, ofCell, isConst, abin, acall1, abuiltin, aun, AV.cells, AV.one, Nat.reduceAdd, Int.reduceLT, Int.reduceLE, ↓WD, W0, evalOp, Nat.reduceEqDiff, Nat.reduceLT, ↓reduceIte, reduceCtorEq, hl, e0, e10]
      refine ⟨rfl, ?_, ?_⟩ <;> simp only [List.length_set, W0, Nat.reduceEqDiff, Nat.reduceLT, ↓reduceIte, hl, e0, e10]) ?_
    rintro envg7 _ ⟨rfl, hl, e4⟩
    try simp only [↓WD, W0, evalOp, Nat.reduceEqDiff, Nat.reduceLT, ↓reduceIte, reduceCtorEq, hl, e4]
    refine KP_ret (vs := [.bool false]) (by simp only [aresults, aresult, gs, List.length_set, Nat.reduceEqDiff, Nat.reduceLT, ↓reduceIte, hl, e4]) ?_
    obtain rfl := Option.some.inj hF
    exact ⟨rfl, S0⟩
  · rw [if_neg c6] at hF
    try simp only [↓WD, W0, evalOp, Nat.reduceEqDiff, Nat.reduceLT, ↓reduceIte, reduceCtorEq, hl, e0, e10]
    rw [AW_region]
    have ol8 := RO.len (P := Try.prog) sl_67 (S0.ro hut)
    rw [List.length_map] at ol8
    refine AE_joinR (fun e h' => h = h' ∧ e.length = 28 ∧ e.getD 11 .undef = ut ∧ e.getD 12 .undef = .int .i64 (t.length : Int) ∧ e.getD 13 .undef = .int .i64 0) (by
      simp only [↓WE, WA, WL, aop, ofValue, ofCell, isConst, abin, acall1, abuiltin, aun, AV.cells, AV.one, Nat.reduceAdd, Int.reduceLT, Int.reduceLE, ↓WD, W0, evalOp, Nat.reduceEqDiff, Nat.reduceLT, ↓reduceIte, reduceCtorEq, hl, e0, e10, ol8]
      refine ⟨rfl, ?_, ?_, ?_, ?_⟩ <;> simp only [List.length_set, W0, Nat.reduceEqDiff, Nat.reduceLT, ↓reduceIte, hl, e0, e10]) ?_
    rintro envg9 _ ⟨rfl, hl, e11, e12, e13⟩
    try simp only [↓WD, W0, evalOp, Nat.reduceEqDiff, Nat.reduceLT, ↓reduceIte, reduceCtorEq, hl, e11, e12, e13]
    obtain ⟨r84, qr84, hF⟩ := obind hF
    refine AW_lift (L_law24_Few_1 t) (fun s e h' => e.length = 28 ∧ e.getD 11 .undef = ut ∧ e.getD 12 .undef = .int .i64 (t.length : Int) ∧ e.getD 13 .undef = .int .i64 s ∧ Sep h [] h' []) (fun r84 x e h' => (∃ (t85 : Unit), r84 = (.inl t85) ∧ x = .exit 0 ∧ e.length = 28 ∧ Sep h [] h' []) ∨ (∃ (t88 : Unit), r84 = (.inr t88) ∧ x = .ret ∧ e.length = 28 ∧ e.getD 4 .undef = .bool false ∧ Sep h [] h' [])) qr84 (by omega) ?_ ?_ ?_
    · rintro s envr84 h47 or84 ⟨hl, e11, e12, e13, S48⟩ wr84
      rw [L_law24_Few_1] at wr84
      try simp only [↓WD, W0, evalOp, Nat.reduceEqDiff, Nat.reduceLT, ↓reduceIte, reduceCtorEq, hl, e11, e12, e13]
      rw [AW_region]
      refine AE_joinR (fun e h' => h47 = h' ∧ e.length = 28 ∧ e.getD 11 .undef = ut ∧ e.getD 12 .undef = .int .i64 (t.length : Int) ∧ e.getD 13 .undef = .int .i64 s ∧ e.getD 14 .undef = .bool (decide (s < (t.length : Int)))) (by
        simp only [↓WE, WA, WL, aop, ofValue, ofCell, isConst, abin, acall1, abuiltin, aun, AV.cells, AV.one, Nat.reduceAdd, Int.reduceLT, Int.reduceLE, ↓WD, W0, evalOp, Nat.reduceEqDiff, Nat.reduceLT, ↓reduceIte, reduceCtorEq, hl, e11, e12, e13]
        refine ⟨rfl, ?_, ?_, ?_, ?_, ?_⟩ <;> simp only [List.length_set, W0, Nat.reduceEqDiff, Nat.reduceLT, ↓reduceIte, hl, e11, e12, e13]) ?_
      rintro envg49 _ ⟨rfl, hl, e11, e12, e13, e14⟩
      try simp only [↓WD, W0, evalOp, Nat.reduceEqDiff, Nat.reduceLT, ↓reduceIte, reduceCtorEq, hl, e11, e12, e13, e14]
      refine CondK_dec (fun c51 => ?_) (fun c51 => ?_)
      · rw [if_pos c51] at wr84
        try simp only [↓WD, W0, evalOp, Nat.reduceEqDiff, Nat.reduceLT, ↓reduceIte, reduceCtorEq, hl, e11, e12, e13, e14]
        rw [AW_region]
        obtain ⟨x52, qx52, wr84⟩ := obind wr84
        obtain ⟨i53, off54, oi55, hp56⟩ := RO.addr (P := Try.prog) sl_67 (S48.ro hut) qx52
        have ol57 := RO.ld (P := Try.prog) (S48.ro hut) hp56 qx52 (t := 75) (o := 0) (v := .agg [.str x52.xPath, .bool x52.xDir, .str x52.xData, .int .i64 x52.xMode, .int .i64 x52.xTime]) (by omega) (by simp only [apart, ag_75, sz_75]; rfl)
        simp only [Nat.add_zero] at ol57
        obtain ⟨i58, h59, oa60, S61⟩ := S48.alloc 75 [.str [], .bool false, .str [], .int .i64 0, .int .i64 0]
        have S63 : Sep h [] h59 [.blk i58 [.str [], .bool false, .str [], .int .i64 0, .int .i64 0] 75] := S61
        obtain ⟨h64, os65, S66⟩ := S63.store (P := Try.prog) 0 rfl (t := 75) (off := 0) (v := .agg [.str x52.xPath, .bool x52.xDir, .str x52.xData, .int .i64 x52.xMode, .int .i64 x52.xTime]) (c' := [.str x52.xPath, .bool x52.xDir, .str x52.xData, .int .i64 x52.xMode, .int .i64 x52.xTime]) rfl sz_75 rfl (by simp) rfl
        have S67 : Sep h [] h64 [.blk i58 [.str x52.xPath, .bool x52.xDir, .str x52.xData, .int .i64 x52.xMode, .int .i64 x52.xTime] 75] := S66
        refine AE_joinR (fun e h' => h64 = h' ∧ e.length = 28 ∧ e.getD 6 .undef = .ptr i58 0 ∧ e.getD 11 .undef = ut ∧ e.getD 12 .undef = .int .i64 (t.length : Int) ∧ e.getD 13 .undef = .int .i64 s) (by
          simp only [↓WE, WA, WL, aop, ofValue, ofCell, isConst, abin, acall1, abuiltin, aun, AV.cells, AV.one, Nat.reduceAdd, Int.reduceLT, Int.reduceLE, ↓WD, W0, evalOp, Nat.reduceEqDiff, Nat.reduceLT, ↓reduceIte, reduceCtorEq, hl, e11, e12, e13, e14, oi55, ol57, zero_75, oa60, os65]
          refine ⟨rfl, ?_, ?_, ?_, ?_, ?_⟩ <;> simp only [List.length_set, W0, Nat.reduceEqDiff, Nat.reduceLT, ↓reduceIte, hl, e11, e12, e13, e14]) ?_
        rintro envg68 _ ⟨rfl, hl, e6, e11, e12, e13⟩
        try simp only [↓WD, W0, evalOp, Nat.reduceEqDiff, Nat.reduceLT, ↓reduceIte, reduceCtorEq, hl, e6, e11, e12, e13]
        rw [AW_region]
        obtain ⟨j76, qj76, wr84⟩ := obind wr84
        refine AE_joinR (fun e h' => e.length = 28 ∧ e.getD 11 .undef = ut ∧ e.getD 12 .undef = .int .i64 (t.length : Int) ∧ e.getD 13 .undef = .int .i64 s ∧ e.getD 26 .undef = .bool j76 ∧ Sep h [] h' []) ?_ ?_
        · have ol69 := S67.load (P := Try.prog) 0 rfl (t := 9) (off := 0) (v := .str x52.xPath) (by simp only [apart, ag_9, sz_9]; rfl)
          have ol70 := fun g : AH => alen_str (P := Try.prog) (h := g) (l := x52.xPath) Try.underlying9
          simp only [↓WE, WA, WL, aop, ofValue, ofCell, isConst, abin, acall1, abuiltin, aun, AV.cells, AV.one, Nat.reduceAdd, Int.reduceLT, Int.reduceLE, ↓WD, W0, evalOp, Nat.reduceEqDiff, Nat.reduceLT, ↓reduceIte, reduceCtorEq, hl, e6, e11, e12, e13, fa_75_0, ol69, ol70]
          refine GuardW_dec (fun c71 => ?_) (fun c71 => ?_)
          · rw [if_pos c71] at qj76
            have d72 : (decide ((x52.xPath.length : Int) > 60)) = true := decide_eq_true c71
            simp only [↓WE, WA, WL, aop, ofValue, ofCell, isConst, abin, acall1, abuiltin, aun, AV.cells, AV.one, Nat.reduceAdd, Int.reduceLT, Int.reduceLE, ↓WD, W0, evalOp, Nat.reduceEqDiff, Nat.reduceLT, ↓reduceIte, reduceCtorEq, hl, e6, e11, e12, e13, fa_75_0, ol69, ol70, d72]
            obtain rfl := Option.some.inj qj76
            refine ⟨?_, ?_, ?_, ?_, ?_, S67.pick [] (by decide) rfl⟩ <;> simp only [List.length_set, W0, Nat.reduceEqDiff, Nat.reduceLT, ↓reduceIte, hl, e6, e11, e12, e13]
          · rw [if_neg c71] at qj76
            have d73 : (decide ((x52.xPath.length : Int) > 60)) = false := decide_eq_false c71
            have ol74 := S67.load (P := Try.prog) 0 rfl (t := 9) (off := 2) (v := .str x52.xData) (by simp only [apart, ag_9, sz_9]; rfl)
            have ol75 := fun g : AH => alen_str (P := Try.prog) (h := g) (l := x52.xData) Try.underlying9
            simp only [↓WE, WA, WL, aop, ofValue, ofCell, isConst, abin, acall1, abuiltin, aun, AV.cells, AV.one, Nat.reduceAdd, Int.reduceLT, Int.reduceLE, ↓WD, W0, evalOp, Nat.reduceEqDiff, Nat.reduceLT, ↓reduceIte, reduceCtorEq, hl, e6, e11, e12, e13, fa_75_0, ol69, ol70, fa_75_2, ol74, ol75, d73]
            obtain rfl := Option.some.inj qj76
            refine ⟨?_, ?_, ?_, ?_, ?_, S67.pick [] (by decide) rfl⟩ <;> simp only [List.length_set, W0, Nat.reduceEqDiff, Nat.reduceLT, ↓reduceIte, hl, e6, e11, e12, e13]
        · rintro envj76 h78 ⟨hl, e11, e12, e13, e26, S77⟩
          try simp only [↓WD, W0, evalOp, Nat.reduceEqDiff, Nat.reduceLT, ↓reduceIte, reduceCtorEq, hl, e11, e12, e13, e26]
          refine CondK_boo (fun c81 => ?_) (fun c81 => ?_)
          · rw [if_pos c81] at wr84
            try simp only [↓WD, W0, evalOp, Nat.reduceEqDiff, Nat.reduceLT, ↓reduceIte, reduceCtorEq, hl, e11, e12, e13, e26]
            rw [AW_region]
            refine AE_joinR (fun e h' => h78 = h' ∧ e.length = 28 ∧ e.getD 4 .undef = .bool false) (by
              simp only [↓WE, WA, WL, aop, ofValue, ofCell, isConst, abin, acall1, abuiltin, aun, AV.cells, AV.one, Nat.reduceAdd, Int.reduceLT, Int.reduceLE, ↓WD, W0, evalOp, Nat.reduceEqDiff, Nat.reduceLT, ↓reduceIte, reduceCtorEq, hl, e11, e12, e13, e26]
              refine ⟨rfl, ?_, ?_⟩ <;> simp only [List.length_set, W0, Nat.reduceEqDiff, Nat.reduceLT, ↓reduceIte, hl, e11, e12, e13, e26]) ?_
            rintro envg82 _ ⟨rfl, hl, e4⟩
            try simp only [↓WD, W0, evalOp, Nat.reduceEqDiff, Nat.reduceLT, ↓reduceIte, reduceCtorEq, hl, e4]
            obtain rfl := Option.some.inj wr84
            rw [KP_nil, QL_ret]
            refine ⟨_, rfl, .inr (⟨_, rfl, rfl, ?_, ?_, S77⟩)⟩ <;> simp only [List.length_set, W0, Nat.reduceEqDiff, Nat.reduceLT, ↓reduceIte, hl, e4]
          · rw [if_neg (nf c81)] at wr84
            try simp only [↓WD, W0, evalOp, Nat.reduceEqDiff, Nat.reduceLT, ↓reduceIte, reduceCtorEq, hl, e11, e12, e13, e26]
            rw [AW_region]
            refine AE_joinR (fun e h' => h78 = h' ∧ e.length = 28 ∧ e.getD 11 .undef = ut ∧ e.getD 12 .undef = .int .i64 (t.length : Int) ∧ e.getD 13 .undef = .int .i64 (IntKind.i64.wrap (s + 1))) (by
              simp only [↓WE, WA, WL, aop, ofValue, ofCell, isConst, abin, acall1, abuiltin, aun, AV.cells, AV.one, Nat.reduceAdd, Int.reduceLT, Int.reduceLE, ↓WD, W0, evalOp, Nat.reduceEqDiff, Nat.reduceLT, ↓reduceIte, reduceCtorEq, hl, e11, e12, e13, e26]
              refine ⟨rfl, ?_, ?_, ?_, ?_⟩ <;> simp only [List.length_set, W0, Nat.reduceEqDiff, Nat.reduceLT, ↓reduceIte, hl, e11, e12, e13, e26]) ?_
            rintro envg83 _ ⟨rfl, hl, e11, e12, e13⟩
            try simp only [↓WD, W0, evalOp, Nat.reduceEqDiff, Nat.reduceLT, ↓reduceIte, reduceCtorEq, hl, e11, e12, e13]
            obtain rfl := Option.some.inj wr84
            rw [KP_nil, QL_normal]
            refine ⟨_, rfl, ?_, ?_, ?_, ?_, S77⟩ <;> simp only [List.length_set, W0, Nat.reduceEqDiff, Nat.reduceLT, ↓reduceIte, hl, e11, e12, e13]
      · rw [if_neg c51] at wr84
        try simp only [↓WD, W0, evalOp, Nat.reduceEqDiff, Nat.reduceLT, ↓reduceIte, reduceCtorEq, hl, e11, e12, e13, e14]
        obtain rfl := Option.some.inj wr84
        rw [KP_nil, QL_exit]
        exact ⟨_, rfl, .inl ⟨_, rfl, rfl, (by simp only [List.length_set, hl]), S48⟩⟩
    · refine ⟨?_, ?_, ?_, ?_, S0⟩ <;> simp only [List.length_set, W0, Nat.reduceEqDiff, Nat.reduceLT, ↓reduceIte, hl, e11, e12, e13]
    · intro x envr84 h86 hk
      rcases hk with ⟨t85, rfl, rfl, hl, S87⟩ | ⟨t88, rfl, rfl, hl, e4, S90⟩
      · skip
        rw [sumK_inl] at hF
        try simp only [↓WD, W0, evalOp, Nat.reduceEqDiff, Nat.reduceLT, ↓reduceIte, reduceCtorEq, hl]
        rw [AW_region]
        refine AE_joinR (fun e h' => h86 = h' ∧ e.length = 28 ∧ e.getD 4 .undef = .bool true) (by
          simp only [↓WE, WA, WL, aop, ofValue, ofCell, isConst, abin, acall1, abuiltin, aun, AV.cells, AV.one, Nat.reduceAdd, Int.reduceLT, Int.reduceLE, ↓WD, W0, evalOp, Nat.reduceEqDiff, Nat.reduceLT, ↓reduceIte, reduceCtorEq, hl]
          refine ⟨rfl, ?_, ?_⟩ <;> simp only [List.length_set, W0, Nat.reduceEqDiff, Nat.reduceLT, ↓reduceIte, hl]) ?_
        rintro envg91 _ ⟨rfl, hl, e4⟩
        try simp only [↓WD, W0, evalOp, Nat.reduceEqDiff, Nat.reduceLT, ↓reduceIte, reduceCtorEq, hl, e4]
        refine KP_ret (vs := [.bool true]) (by simp only [aresults, aresult, gs, List.length_set, Nat.reduceEqDiff, Nat.reduceLT, ↓reduceIte, hl, e4]) ?_
        obtain rfl := Option.some.inj hF
        exact ⟨rfl, S87⟩
      · skip
        rw [sumK_inr] at hF
        try simp only [↓WD, W0, evalOp, Nat.reduceEqDiff, Nat.reduceLT, ↓reduceIte, reduceCtorEq, hl, e4]
        refine KP_ret (vs := [.bool false]) (by simp only [aresults, aresult, gs, List.length_set, Nat.reduceEqDiff, Nat.reduceLT, ↓reduceIte, hl, e4]) ?_
        obtain rfl := Option.some.inj hF
        exact ⟨rfl, S90⟩
theorem W_ref02_Put {K : PureK} (n88 : K 88 = none) (m : Nat) (hm : NF + 1 ≤ m) (h : AH) (v : Int) (n_ : Int) {r : (List UInt8)} (hF : F_ref02_Put v n_ = some r) :
    AR (acall Try.prog (hooksOf K) (drawnOf Try.prog (tabOf K)) m 88 [.int .u64 v, .int .i64 n_] h) (fun v h' => v = .str r) := by
  obtain ⟨m, rfl⟩ : ∃ k, m = k + 1 := ⟨m - 1, by omega⟩
  refine AR_call (hooksOf_none n88) Try.func88 rfl _ _ fun env hl he => ?_
  have e0 := he 0
  have e1 := he 1
  simp only [List.getD_cons_zero, List.getD_cons_succ] at e0 e1
  simp only [Try.f88] at hl ⊢
  simp only [List.length_cons, List.length_nil, Nat.reduceAdd, Nat.reduceSub] at hl
  clear he
  have S0 : Sep h [] h [] := Sep.nil h
  rw [F_ref02_Put] at hF
  try simp only [↓WD, W0, evalOp, Nat.reduceEqDiff, Nat.reduceLT, ↓reduceIte, reduceCtorEq, hl, e0, e1]
  rw [AW_region]
  refine AE_joinR (fun e h' => h = h' ∧ e.length = 22 ∧ e.getD 0 .undef = .int .u64 v ∧ e.getD 1 .undef = .int .i64 n_) (by
    simp only [↓WE, WA, WL, aop, ofValue, ofCell, isConst, abin, acall1, abuiltin, aun, AV.cells, AV.one, Nat.reduceAdd, Int.reduceLT, Int.reduceLE, ↓WD, W0, evalOp, Nat.reduceEqDiff, Nat.reduceLT, ↓reduceIte, reduceCtorEq, hl, e0, e1]
    refine ⟨rfl, ?_, ?_, ?_⟩ <;> simp only [List.length_set, W0, Nat.reduceEqDiff, Nat.reduceLT, ↓reduceIte, hl, e0, e1]) ?_
  rintro envg1 _ ⟨rfl, hl, e0, e1⟩
  try simp only [↓WD, W0, evalOp, Nat.reduceEqDiff, Nat.reduceLT, ↓reduceIte, reduceCtorEq, hl, e0, e1]
  rw [AW_region]
  refine AE_joinR (fun e h' => h = h' ∧ e.length = 22 ∧ e.getD 0 .undef = .int .u64 v ∧ e.getD 1 .undef = .int .i64 n_ ∧ e.getD 5 .undef = .val (.slice none 0 0)) (by
    simp only [↓WE, WA, WL, aop, ofValue, ofCell, isConst, abin, acall1, abuiltin, aun, AV.cells, AV.one, Nat.reduceAdd, Int.reduceLT, Int.reduceLE, ↓WD, W0, evalOp, Nat.reduceEqDiff, Nat.reduceLT, ↓reduceIte, reduceCtorEq, hl, e0, e1]
    refine ⟨rfl, ?_, ?_, ?_, ?_⟩ <;> simp only [List.length_set, W0, Nat.reduceEqDiff, Nat.reduceLT, ↓reduceIte, hl, e0, e1]) ?_
  rintro envg2 _ ⟨rfl, hl, e0, e1, e5⟩
  try simp only [↓WD, W0, evalOp, Nat.reduceEqDiff, Nat.reduceLT, ↓reduceIte, reduceCtorEq, hl, e0, e1, e5]
  rw [AW_region]
  refine AE_joinR (fun e h' => h = h' ∧ e.length = 22 ∧ e.getD 0 .undef = .int .u64 v ∧ e.getD 1 .undef = .int .i64 n_ ∧ e.getD 5 .undef = .val (.slice none 0 0) ∧ e.getD 6 .undef = .int .i64 0) (by
    simp only [↓WE, WA, WL, aop, ofValue, ofCell, isConst, abin, acall1, abuiltin, aun, AV.cells, AV.one, Nat.reduceAdd, Int.reduceLT, Int.reduceLE, ↓WD, W0, evalOp, Nat.reduceEqDiff, Nat.reduceLT, ↓reduceIte, reduceCtorEq, hl, e0, e1, e5]
    refine ⟨rfl, ?_, ?_, ?_, ?_, ?_⟩ <;> simp only [List.length_set, W0, Nat.reduceEqDiff, Nat.reduceLT, ↓reduceIte, hl, e0, e1, e5]) ?_
  rintro envg3 _ ⟨rfl, hl, e0, e1, e5, e6⟩
  try simp only [↓WD, W0, evalOp, Nat.reduceEqDiff, Nat.reduceLT, ↓reduceIte, reduceCtorEq, hl, e0, e1, e5, e6]
  have S30 : Sep h [] h [.row (.val (.slice none 0 0)) 5 1 (([] : List Int).map (cellI .u8))] := S0.nilrow 5 1
  obtain ⟨r60, qr60, hF⟩ := obind hF
  refine AW_lift (L_ref02_Put_1 n_) (fun s e h' => ∃ (u34 : AV), e.length = 22 ∧ e.getD 0 .undef = .int .u64 s.1 ∧ e.getD 1 .undef = .int .i64 n_ ∧ e.getD 5 .undef = u34 ∧ e.getD 6 .undef = .int .i64 s.2.2 ∧ Sep h [] h' [.row u34 5 1 (s.2.1.map (cellI .u8))]) (fun r60 x e h' => ∃ (u61 : AV), x = .exit 0 ∧ e.length = 22 ∧ e.getD 5 .undef = u61 ∧ Sep h [] h' [.row u61 5 1 (r60.map (cellI .u8))]) qr60 (by omega) ?_ ?_ ?_
  · rintro s envr60 h35 or60 ⟨u34, hl, e0, e1, e5, e6, S36⟩ wr60
    rw [L_ref02_Put_1] at wr60
    try simp only [↓WD, W0, evalOp, Nat.reduceEqDiff, Nat.reduceLT, ↓reduceIte, reduceCtorEq, hl, e0, e1, e5, e6]
    rw [AW_region]
    refine AE_joinR (fun e h' => h35 = h' ∧ e.length = 22 ∧ e.getD 0 .undef = .int .u64 s.1 ∧ e.getD 1 .undef = .int .i64 n_ ∧ e.getD 5 .undef = u34 ∧ e.getD 6 .undef = .int .i64 s.2.2 ∧ e.getD 9 .undef = .bool (decide (s.2.2 < n_))) (by
      simp only [↓WE, WA, WL, aop, ofValue, ofCell, isConst, abin, acall1, abuiltin, aun, AV.cells, AV.one, Nat.reduceAdd, Int.reduceLT, Int.reduceLE, ↓WD, W0, evalOp, Nat.reduceEqDiff, Nat.reduceLT, ↓reduceIte, reduceCtorEq, hl, e0, e1, e5, e6]
      refine ⟨rfl, ?_, ?_, ?_, ?_, ?_, ?_⟩ <;> simp only [List.length_set, W0, Nat.reduceEqDiff, Nat.reduceLT, ↓reduceIte, hl, e0, e1, e5, e6]) ?_
    rintro envg37 _ ⟨rfl, hl, e0, e1, e5, e6, e9⟩
    try simp only [↓WD, W0, evalOp, Nat.reduceEqDiff, Nat.reduceLT, ↓reduceIte, reduceCtorEq, hl, e0, e1, e5, e6, e9]
    refine CondK_dec (fun c39 => ?_) (fun c39 => ?_)
    · rw [if_pos c39] at wr60
      try simp only [↓WD, W0, evalOp, Nat.reduceEqDiff, Nat.reduceLT, ↓reduceIte, reduceCtorEq, hl, e0, e1, e5, e6, e9]
      rw [AW_region]
      obtain ⟨y40, qy40, wr60⟩ := obind wr60
      have oy40 := rem_int (k := .u64) qy40
      have oc41 := fun g : AH => aconv_int (P := Try.prog) (h := g) (n := y40) (k' := .u64) Try.underlying24 Try.underlying5
      obtain ⟨u42, h43, ob44, S45⟩ := Sep.build (P := Try.prog) sl_28 S36 [.int .u8 (IntKind.u8.wrap y40)] (([IntKind.u8.wrap y40] : List Int).map (cellI .u8)) rfl (by simp [cellI]) (by simp)
      have ob44 : abuildSlice Try.prog 28 1 [(0, .int .u8 (IntKind.u8.wrap y40))] h35 = some (u42, h43) := ob44
      have S47 : Sep h [] h43 [.row u34 5 1 (s.2.1.map (cellI .u8)), .row u42 5 1 (([IntKind.u8.wrap y40] : List Int).map (cellI .u8))] := S45
      obtain ⟨zs48, qzs48, wr60⟩ := obind wr60
      obtain ⟨u49, h50, op51, S52⟩ := Sep.append (P := Try.prog) (t' := 28) sl_28 (by rw [Try.underlying28]; rfl) S47 0 rfl (S47.row_ro (i := 1) rfl) (fun _ => rfl) qzs48
      have S53 : Sep h [] h50 [.row u49 5 1 (zs48.map (cellI .u8)), .row u42 5 1 (([IntKind.u8.wrap y40] : List Int).map (cellI .u8))] := S52
      refine AE_joinR (fun e h' => h50 = h' ∧ e.length = 22 ∧ e.getD 0 .undef = .int .u64 s.1 ∧ e.getD 1 .undef = .int .i64 n_ ∧ e.getD 5 .undef = u49 ∧ e.getD 6 .undef = .int .i64 s.2.2) (by
        simp only [↓WE, WA, WL, aop, ofValue, ofCell, isConst, abin, acall1, abuiltin, aun, AV.cells, AV.one, Nat.reduceAdd, Int.reduceLT, Int.reduceLE, ↓WD, W0, evalOp, Nat.reduceEqDiff, Nat.reduceLT, ↓reduceIte, reduceCtorEq, hl, e0, e1, e5, e6, e9, oy40, oc41, ob44, op51]
        refine ⟨rfl, ?_, ?_, ?_, ?_, ?_⟩ <;> simp only [List.length_set, W0, Nat.reduceEqDiff, Nat.reduceLT, ↓reduceIte, hl, e0, e1, e5, e6, e9]) ?_
      rintro envg54 _ ⟨rfl, hl, e0, e1, e5, e6⟩
      try simp only [↓WD, W0, evalOp, Nat.reduceEqDiff, Nat.reduceLT, ↓reduceIte, reduceCtorEq, hl, e0, e1, e5, e6]
      rw [AW_region]
      obtain ⟨y55, qy55, wr60⟩ := obind wr60
      have oy55 := quo_int (k := .u64) qy55
      refine AE_joinR (fun e h' => h50 = h' ∧ e.length = 22 ∧ e.getD 0 .undef = .int .u64 y55 ∧ e.getD 1 .undef = .int .i64 n_ ∧ e.getD 5 .undef = u49 ∧ e.getD 6 .undef = .int .i64 s.2.2) (by
        simp only [↓WE, WA, WL, aop, ofValue, ofCell, isConst, abin, acall1, abuiltin, aun, AV.cells, AV.one, Nat.reduceAdd, Int.reduceLT, Int.reduceLE, ↓WD, W0, evalOp, Nat.reduceEqDiff, Nat.reduceLT, ↓reduceIte, reduceCtorEq, hl, e0, e1, e5, e6, oy55]
        refine ⟨rfl, ?_, ?_, ?_, ?_, ?_⟩ <;> simp only [List.length_set, W0, Nat.reduceEqDiff, Nat.reduceLT, ↓reduceIte, hl, e0, e1, e5, e6]) ?_
      rintro envg56 _ ⟨rfl, hl, e0, e1, e5, e6⟩
      try simp only [↓WD, W0, evalOp, Nat.reduceEqDiff, Nat.reduceLT, ↓reduceIte, reduceCtorEq, hl, e0, e1, e5, e6]
      rw [AW_region]
      refine AE_joinR (fun e h' => h50 = h' ∧ e.length = 22 ∧ e.getD 0 .undef = .int .u64 y55 ∧ e.getD 1 .undef = .int .i64 n_ ∧ e.getD 5 .undef = u49 ∧ e.getD 6 .undef = .int .i64 (IntKind.i64.wrap (s.2.2 + 1))) (by
        simp only [↓WE, WA, WL, aop, ofValue, ofCell, isConst, abin, acall1, abuiltin, aun, AV.cells, AV.one, Nat.reduceAdd, Int.reduceLT, Int.reduceLE, ↓WD, W0, evalOp, Nat.reduceEqDiff, Nat.reduceLT, ↓reduceIte, reduceCtorEq, hl, e0, e1, e5, e6]
        refine ⟨rfl, ?_, ?_, ?_, ?_, ?_⟩ <;> simp only [List.length_set, W0, Nat.reduceEqDiff, Nat.reduceLT, ↓reduceIte, hl, e0, e1, e5, e6]) ?_
      rintro envg57 _ ⟨rfl, hl, e0, e1, e5, e6⟩
      try simp only [↓WD, W0, evalOp, Nat.reduceEqDiff, Nat.reduceLT, ↓reduceIte, reduceCtorEq, hl, e0, e1, e5, e6]
      obtain rfl := Option.some.inj wr60
      rw [KP_nil, QL_normal]
      refine ⟨_, rfl, u49, ?_, ?_, ?_, ?_, ?_, S53.pick [0] (by decide) rfl⟩ <;> simp only [List.length_set, W0, Nat.reduceEqDiff, Nat.reduceLT, ↓reduceIte, hl, e0, e1, e5, e6]
    · rw [if_neg c39] at wr60
      try simp only [↓WD, W0, evalOp, Nat.reduceEqDiff, Nat.reduceLT, ↓reduceIte, reduceCtorEq, hl, e0, e1, e5, e6, e9]
      obtain rfl := Option.some.inj wr60
      rw [KP_nil, QL_exit]
      refine ⟨_, rfl, u34, rfl, ?_, ?_, S36⟩ <;> simp only [List.length_set, W0, Nat.reduceEqDiff, Nat.reduceLT, ↓reduceIte, hl, e0, e1, e5, e6, e9]
  · refine ⟨.val (.slice none 0 0), ?_, ?_, ?_, ?_, ?_, S30⟩ <;> simp only [List.length_set, W0, Nat.reduceEqDiff, Nat.reduceLT, ↓reduceIte, hl, e0, e1, e5, e6]
  · rintro x envr60 h62 ⟨u61, rfl, hl, e5, S63⟩
    try simp only [↓WD, W0, evalOp, Nat.reduceEqDiff, Nat.reduceLT, ↓reduceIte, reduceCtorEq, hl, e5]
    rw [AW_region]
    have oc64 := RO.str (P := Try.prog) Try.underlying28 Try.underlying5 Try.underlying9 (S63.row_ro (i := 0) rfl)
    refine AE_joinR (fun e h' => h62 = h' ∧ e.length = 22 ∧ e.getD 4 .undef = .str (r60.map byt)) (by
      simp only [↓WE, WA, WL, aop, ofValue, ofCell, isConst, abin, acall1, abuiltin, aun, AV.cells, AV.one, Nat.reduceAdd, Int.reduceLT, Int.reduceLE, ↓WD, W0, evalOp, Nat.reduceEqDiff, Nat.reduceLT, ↓reduceIte, reduceCtorEq, hl, e5, oc64]
      refine ⟨rfl, ?_, ?_⟩ <;> simp only [List.length_set, W0, Nat.reduceEqDiff, Nat.reduceLT, ↓reduceIte, hl, e5]) ?_
    rintro envg65 _ ⟨rfl, hl, e4⟩
    try simp only [↓WD, W0, evalOp, Nat.reduceEqDiff, Nat.reduceLT, ↓reduceIte, reduceCtorEq, hl, e4]
    refine KP_ret (vs := [.str (r60.map byt)]) (by simp only [aresults, aresult, gs, List.length_set, Nat.reduceEqDiff, Nat.reduceLT, ↓reduceIte, hl, e4]) ?_
    obtain rfl := Option.some.inj hF
    exact rfl
theorem W_ref39_Node {K : PureK} (k15 : K 15 = some kf_15) (k88 : K 88 = some kf_88) (n50 : K 50 = none) (m : Nat) (hm : NF + 1 ≤ m) (h : AH) (n_ : Gapi_Node) {r : (List UInt8)} (hF : F_ref39_Node n_ = some r) :
    AR (acall Try.prog (hooksOf K) (drawnOf Try.prog (tabOf K)) m 50 [.agg [.str n_.xPath, .bool n_.xDir, .str n_.xData, .int .i64 n_.xMode, .int .i64 n_.xTime]] h) (fun v h' => v = .str r) := by
  obtain ⟨m, rfl⟩ : ∃ k, m = k + 1 := ⟨m - 1, by omega⟩
  refine AR_call (hooksOf_none n50) Try.func50 rfl _ _ fun env hl he => ?_
  have e0 := he 0
  simp only [List.getD_cons_zero, List.getD_cons_succ] at e0
  simp only [Try.f50] at hl ⊢
  simp only [List.length_cons, List.length_nil, Nat.reduceAdd, Nat.reduceSub] at hl
  clear he
  have S0 : Sep h [] h [] := Sep.nil h
  rw [F_ref39_Node] at hF
  try simp only [↓WD, W0, evalOp, Nat.reduceEqDiff, Nat.reduceLT, ↓reduceIte, reduceCtorEq, hl, e0]
  rw [AW_region]
  obtain ⟨i1, h2, oa3, S4⟩ := S0.alloc 75 [.str n_.xPath, .bool n_.xDir, .str n_.xData, .int .i64 n_.xMode, .int .i64 n_.xTime]
  have S6 : Sep h [] h2 [.blk i1 [.str n_.xPath, .bool n_.xDir, .str n_.xData, .int .i64 n_.xMode, .int .i64 n_.xTime] 75] := S4
  refine AE_joinR (fun e h' => h2 = h' ∧ e.length = 35 ∧ e.getD 1 .undef = .ptr i1 0) (by
    simp only [↓WE, WA, WL, aop, ofValue, ofCell, isConst, abin, acall1, abuiltin, aun, AV.cells, AV.one, Nat.reduceAdd, Int.reduceLT, Int.reduceLE, ↓WD, W0, evalOp, Nat.reduceEqDiff, Nat.reduceLT, ↓reduceIte, reduceCtorEq, hl, e0, oa3]
    refine ⟨rfl, ?_, ?_⟩ <;> simp only [List.length_set, W0, Nat.reduceEqDiff, Nat.reduceLT, ↓reduceIte, hl, e0]) ?_
  rintro envg7 _ ⟨rfl, hl, e1⟩
  try simp only [↓WD, W0, evalOp, Nat.reduceEqDiff, Nat.reduceLT, ↓reduceIte, reduceCtorEq, hl, e1]
  rw [AW_region]
  refine AE_joinR (fun e h' => h2 = h' ∧ e.length = 35 ∧ e.getD 1 .undef = .ptr i1 0 ∧ e.getD 3 .undef = .str [102]) (by
    simp only [↓WE, WA, WL, aop, ofValue, ofCell, isConst, abin, acall1, abuiltin, aun, AV.cells, AV.one, Nat.reduceAdd, Int.reduceLT, Int.reduceLE, ↓WD, W0, evalOp, Nat.reduceEqDiff, Nat.reduceLT, ↓reduceIte, reduceCtorEq, hl, e1]
    refine ⟨rfl, ?_, ?_, ?_⟩ <;> simp only [List.length_set, W0, Nat.reduceEqDiff, Nat.reduceLT, ↓reduceIte, hl, e1]) ?_
  rintro envg8 _ ⟨rfl, hl, e1, e3⟩
  try simp only [↓WD, W0, evalOp, Nat.reduceEqDiff, Nat.reduceLT, ↓reduceIte, reduceCtorEq, hl, e1, e3]
  rw [AW_region]
  have ol9 := S6.load (P := Try.prog) 0 rfl (t := 4) (off := 1) (v := .bool n_.xDir) (by simp only [apart, ag_4, sz_4]; rfl)
  refine AE_joinR (fun e h' => h2 = h' ∧ e.length = 35 ∧ e.getD 1 .undef = .ptr i1 0 ∧ e.getD 3 .undef = .str [102] ∧ e.getD 5 .undef = .bool n_.xDir) (by
    simp only [↓WE, WA, WL, aop, ofValue, ofCell, isConst, abin, acall1, abuiltin, aun, AV.cells, AV.one, Nat.reduceAdd, Int.reduceLT, Int.reduceLE, ↓WD, W0, evalOp, Nat.reduceEqDiff, Nat.reduceLT, ↓reduceIte, reduceCtorEq, hl, e1, e3, fa_75_1, ol9]
    refine ⟨rfl, ?_, ?_, ?_, ?_⟩ <;> simp only [List.length_set, W0, Nat.reduceEqDiff, Nat.reduceLT, ↓reduceIte, hl, e1, e3]) ?_
  rintro envg10 _ ⟨rfl, hl, e1, e3, e5⟩
  try simp only [↓WD, W0, evalOp, Nat.reduceEqDiff, Nat.reduceLT, ↓reduceIte, reduceCtorEq, hl, e1, e3, e5]
  obtain ⟨j13, qj13, hF⟩ := obind hF
  refine CondK_join (fun e h' => e.length = 35 ∧ e.getD 1 .undef = .ptr i1 0 ∧ e.getD 3 .undef = .str j13 ∧ Sep h [] h' [.blk i1 [.str n_.xPath, .bool n_.xDir, .str n_.xData, .int .i64 n_.xMode, .int .i64 n_.xTime] 75]) ?_ ?_
  · refine CondK_boo (fun c11 => ?_) (fun c11 => ?_)
    · rw [if_pos c11] at qj13
      try simp only [↓WD, W0, evalOp, Nat.reduceEqDiff, Nat.reduceLT, ↓reduceIte, reduceCtorEq, hl, e1, e3, e5]
      rw [AW_region]
      refine AE_joinR (fun e h' => h2 = h' ∧ e.length = 35 ∧ e.getD 1 .undef = .ptr i1 0 ∧ e.getD 3 .undef = .str [100]) (by
        simp only [↓WE, WA, WL, aop, ofValue, ofCell, isConst, abin, acall1, abuiltin, aun, AV.cells, AV.one, Nat.reduceAdd, Int.reduceLT, Int.reduceLE, ↓WD, W0, evalOp, Nat.reduceEqDiff, Nat.reduceLT, ↓reduceIte, reduceCtorEq, hl, e1, e3, e5]
        refine ⟨rfl, ?_, ?_, ?_⟩ <;> simp only [List.length_set, W0, Nat.reduceEqDiff, Nat.reduceLT, ↓reduceIte, hl, e1, e3, e5]) ?_
      rintro envg12 _ ⟨rfl, hl, e1, e3⟩
      try simp only [↓WD, W0, evalOp, Nat.reduceEqDiff, Nat.reduceLT, ↓reduceIte, reduceCtorEq, hl, e1, e3]
      rw [KP_nil, KJ_normal]
      obtain rfl := Option.some.inj qj13
      refine ⟨?_, ?_, ?_, S6⟩ <;> simp only [List.length_set, W0, Nat.reduceEqDiff, Nat.reduceLT, ↓reduceIte, hl, e1, e3]
    · rw [if_neg (nf c11)] at qj13
      try simp only [↓WD, W0, evalOp, Nat.reduceEqDiff, Nat.reduceLT, ↓reduceIte, reduceCtorEq, hl, e1, e3, e5]
      rw [KP_nil, KJ_normal]
      obtain rfl := Option.some.inj qj13
      refine ⟨?_, ?_, ?_, S6⟩ <;> simp only [List.length_set, W0, Nat.reduceEqDiff, Nat.reduceLT, ↓reduceIte, hl, e1, e3, e5]
  · rintro envj13 h15 ⟨hl, e1, e3, S14⟩
    try simp only [↓WD, W0, evalOp, Nat.reduceEqDiff, Nat.reduceLT, ↓reduceIte, reduceCtorEq, hl, e1, e3]
    rw [AW_drawn, AE_drawnK (Ksub.cons k15 (Ksub.cons k88 Ksub.nil)) (by kernel_rfl)]
    have ol16 := S14.load (P := Try.prog) 0 rfl (t := 9) (off := 0) (v := .str n_.xPath) (by simp only [apart, ag_9, sz_9]; rfl)
    have ol17 := fun g : AH => alen_str (P := Try.prog) (h := g) (l := n_.xPath) Try.underlying9
    have oc18 := fun g : AH => aconv_int (P := Try.prog) (h := g) (n := (n_.xPath.length : Int)) (k' := .i64) Try.underlying3 Try.underlying24
    obtain ⟨y19, qy19, hF⟩ := obind hF
    have og20 := fun (cf : CallF) (g : AH) => tab_hook (cf := cf) k88 (args := [.int .u64 (IntKind.u64.wrap (n_.xPath.length : Int)), .int .i64 4]) (v := .str y19) ((kf_88_eq (IntKind.u64.wrap (n_.xPath.length : Int)) 4).trans (by rw [qy19]; rfl)) g
    obtain ⟨s21, qs21, hF⟩ := obind hF
    have os21 := cat_str qs21
    have ol22 := S14.load (P := Try.prog) 0 rfl (t := 9) (off := 0) (v := .str n_.xPath) (by simp only [apart, ag_9, sz_9]; rfl)
    obtain ⟨s23, qs23, hF⟩ := obind hF
    have os23 := cat_str qs23
    have ol24 := S14.load (P := Try.prog) 0 rfl (t := 3) (off := 3) (v := .int .i64 n_.xMode) (by simp only [apart, ag_3, sz_3]; rfl)
    have oc25 := fun g : AH => aconv_int (P := Try.prog) (h := g) (n := n_.xMode) (k' := .i64) Try.underlying3 Try.underlying24
    obtain ⟨y26, qy26, hF⟩ := obind hF
    have og27 := fun (cf : CallF) (g : AH) => tab_hook (cf := cf) k88 (args := [.int .u64 (IntKind.u64.wrap n_.xMode), .int .i64 2]) (v := .str y26) ((kf_88_eq (IntKind.u64.wrap n_.xMode) 2).trans (by rw [qy26]; rfl)) g
    obtain ⟨s28, qs28, hF⟩ := obind hF
    have os28 := cat_str qs28
    have ol29 := S14.load (P := Try.prog) 0 rfl (t := 3) (off := 4) (v := .int .i64 n_.xTime) (by simp only [apart, ag_3, sz_3]; rfl)
    have oc30 := fun g : AH => aconv_int (P := Try.prog) (h := g) (n := n_.xTime) (k' := .i64) Try.underlying3 Try.underlying24
    obtain ⟨y31, qy31, hF⟩ := obind hF
    have og32 := fun (cf : CallF) (g : AH) => tab_hook (cf := cf) k88 (args := [.int .u64 (IntKind.u64.wrap n_.xTime), .int .i64 4]) (v := .str y31) ((kf_88_eq (IntKind.u64.wrap n_.xTime) 4).trans (by rw [qy31]; rfl)) g
    obtain ⟨s33, qs33, hF⟩ := obind hF
    have os33 := cat_str qs33
    refine AE_joinR (fun e h' => h15 = h' ∧ e.length = 35 ∧ e.getD 1 .undef = .ptr i1 0 ∧ e.getD 3 .undef = .str s33) (by
      simp only [↓WE, WA, WL, aop, ofValue, ofCell, isConst, abin, acall1, abuiltin, aun, AV.cells, AV.one, Nat.reduceAdd, Int.reduceLT, Int.reduceLE, ↓WD, W0, evalOp, Nat.reduceEqDiff, Nat.reduceLT, ↓reduceIte, reduceCtorEq, hl, e1, e3, fa_75_0, ol16, ol17, oc18, og20, os21, ol22, os23, fa_75_3, ol24, oc25, og27, os28, fa_75_4, ol29, oc30, og32, os33]
      refine ⟨rfl, ?_, ?_, ?_⟩ <;> simp only [List.length_set, W0, Nat.reduceEqDiff, Nat.reduceLT, ↓reduceIte, hl, e1, e3]) ?_
    rintro envg34 _ ⟨rfl, hl, e1, e3⟩
    try simp only [↓WD, W0, evalOp, Nat.reduceEqDiff, Nat.reduceLT, ↓reduceIte, reduceCtorEq, hl, e1, e3]
    rw [AW_region]
    have ol35 := S14.load (P := Try.prog) 0 rfl (t := 4) (off := 1) (v := .bool n_.xDir) (by simp only [apart, ag_4, sz_4]; rfl)
    refine AE_joinR (fun e h' => h15 = h' ∧ e.length = 35 ∧ e.getD 1 .undef = .ptr i1 0 ∧ e.getD 3 .undef = .str s33 ∧ e.getD 28 .undef = .bool !n_.xDir) (by
      simp only [↓WE, WA, WL, aop, ofValue, ofCell, isConst, abin, acall1, abuiltin, aun, AV.cells, AV.one, Nat.reduceAdd, Int.reduceLT, Int.reduceLE, ↓WD, W0, evalOp, Nat.reduceEqDiff, Nat.reduceLT, ↓reduceIte, reduceCtorEq, hl, e1, e3, fa_75_1, ol35]
      refine ⟨rfl, ?_, ?_, ?_, ?_⟩ <;> simp only [List.length_set, W0, Nat.reduceEqDiff, Nat.reduceLT, ↓reduceIte, hl, e1, e3]) ?_
    rintro envg36 _ ⟨rfl, hl, e1, e3, e28⟩
    try simp only [↓WD, W0, evalOp, Nat.reduceEqDiff, Nat.reduceLT, ↓reduceIte, reduceCtorEq, hl, e1, e3, e28]
    obtain ⟨j43, qj43, hF⟩ := obind hF
    refine CondK_join (fun e h' => e.length = 35 ∧ e.getD 3 .undef = .str j43 ∧ Sep h [] h' []) ?_ ?_
    · refine CondK_boo (fun c37 => ?_) (fun c37 => ?_)
      · rw [if_pos c37] at qj43
        try simp only [↓WD, W0, evalOp, Nat.reduceEqDiff, Nat.reduceLT, ↓reduceIte, reduceCtorEq, hl, e1, e3, e28]
        rw [AW_region]
        have ol38 := S14.load (P := Try.prog) 0 rfl (t := 9) (off := 2) (v := .str n_.xData) (by simp only [apart, ag_9, sz_9]; rfl)
        obtain ⟨y39, qy39, qj43⟩ := obind qj43
        have og40 := fun (D : Drawn) (n : Nat) (g : AH) => call_hook (P := Try.prog) (D := D) k15 n (args := [.str n_.xData]) (v := .str y39) ((kf_15_eq n_.xData).trans (by rw [qy39]; rfl)) g
        obtain ⟨s41, qs41, qj43⟩ := obind qj43
        have os41 := cat_str qs41
        refine AE_joinR (fun e h' => h15 = h' ∧ e.length = 35 ∧ e.getD 3 .undef = .str s41) (by
          simp only [↓WE, WA, WL, aop, ofValue, ofCell, isConst, abin, acall1, abuiltin, aun, AV.cells, AV.one, Nat.reduceAdd, Int.reduceLT, Int.reduceLE, ↓WD, W0, evalOp, Nat.reduceEqDiff, Nat.reduceLT, ↓reduceIte, reduceCtorEq, hl, e1, e3, e28, fa_75_2, ol38, og40, os41]
          refine ⟨rfl, ?_, ?_⟩ <;> simp only [List.length_set, W0, Nat.reduceEqDiff, Nat.reduceLT, ↓reduceIte, hl, e1, e3, e28]) ?_
        rintro envg42 _ ⟨rfl, hl, e3⟩
        try simp only [↓WD, W0, evalOp, Nat.reduceEqDiff, Nat.reduceLT, ↓reduceIte, reduceCtorEq, hl, e3]
        rw [KP_nil, KJ_normal]
        obtain rfl := Option.some.inj qj43
        refine ⟨?_, ?_, S14.pick [] (by decide) rfl⟩ <;> simp only [List.length_set, W0, Nat.reduceEqDiff, Nat.reduceLT, ↓reduceIte, hl, e3]
      · rw [if_neg (nf c37)] at qj43
        try simp only [↓WD, W0, evalOp, Nat.reduceEqDiff, Nat.reduceLT, ↓reduceIte, reduceCtorEq, hl, e1, e3, e28]
        rw [KP_nil, KJ_normal]
        obtain rfl := Option.some.inj qj43
        refine ⟨?_, ?_, S14.pick [] (by decide) rfl⟩ <;> simp only [List.length_set, W0, Nat.reduceEqDiff, Nat.reduceLT, ↓reduceIte, hl, e1, e3, e28]
    · rintro envj43 h45 ⟨hl, e3, S44⟩
      try simp only [↓WD, W0, evalOp, Nat.reduceEqDiff, Nat.reduceLT, ↓reduceIte, reduceCtorEq, hl, e3]
      rw [AW_region]
      refine AE_joinR (fun e h' => h45 = h' ∧ e.length = 35 ∧ e.getD 2 .undef = .str j43) (by
        simp only [↓WE, WA, WL, aop, ofValue, ofCell, isConst, abin, acall1, abuiltin, aun, AV.cells, AV.one, Nat.reduceAdd, Int.reduceLT, Int.reduceLE, ↓WD, W0, evalOp, Nat.reduceEqDiff, Nat.reduceLT, ↓reduceIte, reduceCtorEq, hl, e3]
        refine ⟨rfl, ?_, ?_⟩ <;> simp only [List.length_set, W0, Nat.reduceEqDiff, Nat.reduceLT, ↓reduceIte, hl, e3]) ?_
      rintro envg46 _ ⟨rfl, hl, e2⟩
      try simp only [↓WD, W0, evalOp, Nat.reduceEqDiff, Nat.reduceLT, ↓reduceIte, reduceCtorEq, hl, e2]
      refine KP_ret (vs := [.str j43]) (by simp only [aresults, aresult, gs, List.length_set, Nat.reduceEqDiff, Nat.reduceLT, ↓reduceIte, hl, e2]) ?_
      obtain rfl := Option.some.inj hF
      exact rfl
theorem W_ref39_text {K : PureK} (k50 : K 50 = some kf_50) (n93 : K 93 = none) (m : Nat) (hm : NF + 1 ≤ m) (h : AH) (ut : AV) (t : List Gapi_Node) (hut : RO 5 ut h (t.map Gapi_Node.cells)) {r : (List UInt8)} (hF : F_ref39_text t = some r) :
    AR (acall Try.prog (hooksOf K) (drawnOf Try.prog (tabOf K)) m 93 [ut] h) (fun v h' => v = .str r ∧ Sep h [] h' []) := by
  obtain ⟨m, rfl⟩ : ∃ k, m = k + 1 := ⟨m - 1, by omega⟩
  refine AR_call (hooksOf_none n93) Try.func93 rfl _ _ fun env hl he => ?_
  have e0 := he 0
  simp only [List.getD_cons_zero, List.getD_cons_succ] at e0
  simp only [Try.f93] at hl ⊢
  simp only [List.length_cons, List.length_nil, Nat.reduceAdd, Nat.reduceSub] at hl
  clear he
  have S0 : Sep h [] h [] := Sep.nil h
  rw [F_ref39_text] at hF
  try simp only [↓WD, W0, evalOp, Nat.reduceEqDiff, Nat.reduceLT, ↓reduceIte, reduceCtorEq, hl, e0]
  rw [AW_region]
  refine AE_joinR (fun e h' => h = h' ∧ e.length = 19 ∧ e.getD 0 .undef = ut) (by
    simp only [↓WE, WA, WL, aop, ofValue, ofCell, isConst, abin, acall1, abuiltin, aun, AV.cells, AV.one, Nat.reduceAdd, Int.reduceLT, Int.reduceLE, ↓WD, W0, evalOp, Nat.reduceEqDiff, Nat.reduceLT, ↓reduceIte, reduceCtorEq, hl, e0]
    refine ⟨rfl, ?_, ?_⟩ <;> simp only [List.length_set, W0, Nat.reduceEqDiff, Nat.reduceLT, ↓reduceIte, hl, e0]) ?_
  rintro envg1 _ ⟨rfl, hl, e0⟩
  try simp only [↓WD, W0, evalOp, Nat.reduceEqDiff, Nat.reduceLT, ↓reduceIte, reduceCtorEq, hl, e0]
  rw [AW_region]
  refine AE_joinR (fun e h' => h = h' ∧ e.length = 19 ∧ e.getD 0 .undef = ut ∧ e.getD 3 .undef = .str []) (by
    simp only [↓WE, WA, WL, aop, ofValue, ofCell, isConst, abin, acall1, abuiltin, aun, AV.cells, AV.one, Nat.reduceAdd, Int.reduceLT, Int.reduceLE, ↓WD, W0, evalOp, Nat.reduceEqDiff, Nat.reduceLT, ↓reduceIte, reduceCtorEq, hl, e0]
    refine ⟨rfl, ?_, ?_, ?_⟩ <;> simp only [List.length_set, W0, Nat.reduceEqDiff, Nat.reduceLT, ↓reduceIte, hl, e0]) ?_
  rintro envg2 _ ⟨rfl, hl, e0, e3⟩
  try simp only [↓WD, W0, evalOp, Nat.reduceEqDiff, Nat.reduceLT, ↓reduceIte, reduceCtorEq, hl, e0, e3]
  rw [AW_region]
  refine AE_joinR (fun e h' => h = h' ∧ e.length = 19 ∧ e.getD 0 .undef = ut ∧ e.getD 3 .undef = .str [] ∧ e.getD 4 .undef = .int .i64 0) (by
    simp only [↓WE, WA, WL, aop, ofValue, ofCell, isConst, abin, acall1, abuiltin, aun, AV.cells, AV.one, Nat.reduceAdd, Int.reduceLT, Int.reduceLE, ↓WD, W0, evalOp, Nat.reduceEqDiff, Nat.reduceLT, ↓reduceIte, reduceCtorEq, hl, e0, e3]
    refine ⟨rfl, ?_, ?_, ?_, ?_⟩ <;> simp only [List.length_set, W0, Nat.reduceEqDiff, Nat.reduceLT, ↓reduceIte, hl, e0, e3]) ?_
  rintro envg3 _ ⟨rfl, hl, e0, e3, e4⟩
  try simp only [↓WD, W0, evalOp, Nat.reduceEqDiff, Nat.reduceLT, ↓reduceIte, reduceCtorEq, hl, e0, e3, e4]
  obtain ⟨r38, qr38, hF⟩ := obind hF
  refine AW_lift (L_ref39_text_1 t) (fun s e h' => e.length = 19 ∧ e.getD 0 .undef = ut ∧ e.getD 3 .undef = .str s.1 ∧ e.getD 4 .undef = .int .i64 s.2 ∧ Sep h [] h' []) (fun r38 x e h' => x = .exit 0 ∧ e.length = 19 ∧ e.getD 3 .undef = .str r38 ∧ Sep h [] h' []) qr38 (by omega) ?_ ?_ ?_
  · rintro s envr38 h21 or38 ⟨hl, e0, e3, e4, S22⟩ wr38
    rw [L_ref39_text_1] at wr38
    try simp only [↓WD, W0, evalOp, Nat.reduceEqDiff, Nat.reduceLT, ↓reduceIte, reduceCtorEq, hl, e0, e3, e4]
    rw [AW_region]
    have ol23 := RO.len (P := Try.prog) sl_67 (S22.ro hut)
    rw [List.length_map] at ol23
    refine AE_joinR (fun e h' => h21 = h' ∧ e.length = 19 ∧ e.getD 0 .undef = ut ∧ e.getD 3 .undef = .str s.1 ∧ e.getD 4 .undef = .int .i64 s.2 ∧ e.getD 8 .undef = .bool (decide (s.2 < (t.length : Int)))) (by
      simp only [↓WE, WA, WL, aop, ofValue, ofCell, isConst, abin, acall1, abuiltin, aun, AV.cells, AV.one, Nat.reduceAdd, Int.reduceLT, Int.reduceLE, ↓WD, W0, evalOp, Nat.reduceEqDiff, Nat.reduceLT, ↓reduceIte, reduceCtorEq, hl, e0, e3, e4, ol23]
      refine ⟨rfl, ?_, ?_, ?_, ?_, ?_⟩ <;> simp only [List.length_set, W0, Nat.reduceEqDiff, Nat.reduceLT, ↓reduceIte, hl, e0, e3, e4]) ?_
    rintro envg24 _ ⟨rfl, hl, e0, e3, e4, e8⟩
    try simp only [↓WD, W0, evalOp, Nat.reduceEqDiff, Nat.reduceLT, ↓reduceIte, reduceCtorEq, hl, e0, e3, e4, e8]
    refine CondK_dec (fun c26 => ?_) (fun c26 => ?_)
    · rw [if_pos c26] at wr38
      try simp only [↓WD, W0, evalOp, Nat.reduceEqDiff, Nat.reduceLT, ↓reduceIte, reduceCtorEq, hl, e0, e3, e4, e8]
      rw [AW_region]
      obtain ⟨x27, qx27, wr38⟩ := obind wr38
      obtain ⟨i28, off29, oi30, hp31⟩ := RO.addr (P := Try.prog) sl_67 (S22.ro hut) qx27
      have ol32 := RO.ld (P := Try.prog) (S22.ro hut) hp31 qx27 (t := 75) (o := 0) (v := .agg [.str x27.xPath, .bool x27.xDir, .str x27.xData, .int .i64 x27.xMode, .int .i64 x27.xTime]) (by omega) (by simp only [apart, ag_75, sz_75]; rfl)
      simp only [Nat.add_zero] at ol32
      obtain ⟨y33, qy33, wr38⟩ := obind wr38
      have og34 := fun (D : Drawn) (n : Nat) (g : AH) => call_hook (P := Try.prog) (D := D) k50 n (args := [.agg [.str x27.xPath, .bool x27.xDir, .str x27.xData, .int .i64 x27.xMode, .int .i64 x27.xTime]]) (v := .str y33) ((kf_50_eq x27).trans (by rw [qy33]; rfl)) g
      obtain ⟨s35, qs35, wr38⟩ := obind wr38
      have os35 := cat_str qs35
      refine AE_joinR (fun e h' => h21 = h' ∧ e.length = 19 ∧ e.getD 0 .undef = ut ∧ e.getD 3 .undef = .str s35 ∧ e.getD 4 .undef = .int .i64 s.2) (by
        simp only [↓WE, WA, WL, aop, ofValue, ofCell, isConst, abin, acall1, abuiltin, aun, AV.cells, AV.one, Nat.reduceAdd, Int.reduceLT, Int.reduceLE, ↓WD, W0, evalOp, Nat.reduceEqDiff, Nat.reduceLT, ↓reduceIte, reduceCtorEq, hl, e0, e3, e4, e8, oi30, ol32, og34, os35]
        refine ⟨rfl, ?_, ?_, ?_, ?_⟩ <;> simp only [List.length_set, W0, Nat.reduceEqDiff, Nat.reduceLT, ↓reduceIte, hl, e0, e3, e4, e8]) ?_
      rintro envg36 _ ⟨rfl, hl, e0, e3, e4⟩
      try simp only [↓WD, W0, evalOp, Nat.reduceEqDiff, Nat.reduceLT, ↓reduceIte, reduceCtorEq, hl, e0, e3, e4]
      rw [AW_region]
      refine AE_joinR (fun e h' => h21 = h' ∧ e.length = 19 ∧ e.getD 0 .undef = ut ∧ e.getD 3 .undef = .str s35 ∧ e.getD 4 .undef = .int .i64 (IntKind.i64.wrap (s.2 + 1))) (by
        simp only [↓WE, WA, WL, aop, ofValue, ofCell, isConst, abin, acall1, abuiltin, aun, AV.cells, AV.one, Nat.reduceAdd, Int.reduceLT, Int.reduceLE, ↓WD, W0, evalOp, Nat.reduceEqDiff, Nat.reduceLT, ↓reduceIte, reduceCtorEq, hl, e0, e3, e4]
        refine ⟨rfl, ?_, ?_, ?_, ?_⟩ <;> simp only [List.length_set, W0, Nat.reduceEqDiff, Nat.reduceLT, ↓reduceIte, hl, e0, e3, e4]) ?_
      rintro envg37 _ ⟨rfl, hl, e0, e3, e4⟩
      try simp only [↓WD, W0, evalOp, Nat.reduceEqDiff, Nat.reduceLT, ↓reduceIte, reduceCtorEq, hl, e0, e3, e4]
      obtain rfl := Option.some.inj wr38
      rw [KP_nil, QL_normal]
      refine ⟨_, rfl, ?_, ?_, ?_, ?_, S22⟩ <;> simp only [List.length_set, W0, Nat.reduceEqDiff, Nat.reduceLT, ↓reduceIte, hl, e0, e3, e4]
    · rw [if_neg c26] at wr38
      try simp only [↓WD, W0, evalOp, Nat.reduceEqDiff, Nat.reduceLT, ↓reduceIte, reduceCtorEq, hl, e0, e3, e4, e8]
      obtain rfl := Option.some.inj wr38
      rw [KP_nil, QL_exit]
      refine ⟨_, rfl, rfl, ?_, ?_, S22⟩ <;> simp only [List.length_set, W0, Nat.reduceEqDiff, Nat.reduceLT, ↓reduceIte, hl, e0, e3, e4, e8]
  · refine ⟨?_, ?_, ?_, ?_, S0⟩ <;> simp only [List.length_set, W0, Nat.reduceEqDiff, Nat.reduceLT, ↓reduceIte, hl, e0, e3, e4]
  · rintro x envr38 h39 ⟨rfl, hl, e3, S40⟩
    try simp only [↓WD, W0, evalOp, Nat.reduceEqDiff, Nat.reduceLT, ↓reduceIte, reduceCtorEq, hl, e3]
    rw [AW_region]
    refine AE_joinR (fun e h' => h39 = h' ∧ e.length = 19 ∧ e.getD 2 .undef = .str r38) (by
      simp only [↓WE, WA, WL, aop, ofValue, ofCell, isConst, abin, acall1, abuiltin, aun, AV.cells, AV.one, Nat.reduceAdd, Int.reduceLT, Int.reduceLE, ↓WD, W0, evalOp, Nat.reduceEqDiff, Nat.reduceLT, ↓reduceIte, reduceCtorEq, hl, e3]
      refine ⟨rfl, ?_, ?_⟩ <;> simp only [List.length_set, W0, Nat.reduceEqDiff, Nat.reduceLT, ↓reduceIte, hl, e3]) ?_
    rintro envg41 _ ⟨rfl, hl, e2⟩
    try simp only [↓WD, W0, evalOp, Nat.reduceEqDiff, Nat.reduceLT, ↓reduceIte, reduceCtorEq, hl, e2]
    refine KP_ret (vs := [.str r38]) (by simp only [aresults, aresult, gs, List.length_set, Nat.reduceEqDiff, Nat.reduceLT, ↓reduceIte, hl, e2]) ?_
    obtain rfl := Option.some.inj hF
    exact ⟨rfl, S40⟩
theorem W_ref39_Tree {K : PureK} (k15 : K 15 = some kf_15) (k50 : K 50 = some kf_50) (n93 : K 93 = none) (n52 : K 52 = none) (m : Nat) (hm : NF + 2 ≤ m) (h : AH) (ut : AV) (t : List Gapi_Node) (hut : RO 5 ut h (t.map Gapi_Node.cells)) {r : (List UInt8)} (hF : F_ref39_Tree t = some r) :
    AR (acall Try.prog (hooksOf K) (drawnOf Try.prog (tabOf K)) m 52 [ut] h) (fun v h' => v = .str r ∧ Sep h [] h' []) := by
  obtain ⟨m, rfl⟩ : ∃ k, m = k + 1 := ⟨m - 1, by omega⟩
  refine AR_call (hooksOf_none n52) Try.func52 rfl _ _ fun env hl he => ?_
  have e0 := he 0
  simp only [List.getD_cons_zero, List.getD_cons_succ] at e0
  simp only [Try.f52] at hl ⊢
  simp only [List.length_cons, List.length_nil, Nat.reduceAdd, Nat.reduceSub] at hl
  clear he
  have S0 : Sep h [] h [] := Sep.nil h
  rw [F_ref39_Tree] at hF
  try simp only [↓WD, W0, evalOp, Nat.reduceEqDiff, Nat.reduceLT, ↓reduceIte, reduceCtorEq, hl, e0]
  rw [AW_region]
  refine AE_joinR (fun e h' => h = h' ∧ e.length = 6 ∧ e.getD 0 .undef = ut) (by
    simp only [↓WE, WA, WL, aop, ofValue, ofCell, isConst, abin, acall1, abuiltin, aun, AV.cells, AV.one, Nat.reduceAdd, Int.reduceLT, Int.reduceLE, ↓WD, W0, evalOp, Nat.reduceEqDiff, Nat.reduceLT, ↓reduceIte, reduceCtorEq, hl, e0]
    refine ⟨rfl, ?_, ?_⟩ <;> simp only [List.length_set, W0, Nat.reduceEqDiff, Nat.reduceLT, ↓reduceIte, hl, e0]) ?_
  rintro envg1 _ ⟨rfl, hl, e0⟩
  try simp only [↓WD, W0, evalOp, Nat.reduceEqDiff, Nat.reduceLT, ↓reduceIte, reduceCtorEq, hl, e0]
  rw [AW_region]
  obtain ⟨y2, qy2, hF⟩ := obind hF
  obtain ⟨v6, h4, og3, rfl, S5⟩ := (W_ref39_text k50 n93 m (by omega) h ut t (S0.ro hut) qy2).out
  have S7 : Sep h [] h4 [] := S0.call0 S5
  obtain ⟨y8, qy8, hF⟩ := obind hF
  have og9 := fun (D : Drawn) (n : Nat) (g : AH) => call_hook (P := Try.prog) (D := D) k15 n (args := [.str y2]) (v := .str y8) ((kf_15_eq y2).trans (by rw [qy8]; rfl)) g
  refine AE_joinR (fun e h' => h4 = h' ∧ e.length = 6 ∧ e.getD 2 .undef = .str y8) (by
    simp only [↓WE, WA, WL, aop, ofValue, ofCell, isConst, abin, acall1, abuiltin, aun, AV.cells, AV.one, Nat.reduceAdd, Int.reduceLT, Int.reduceLE, ↓WD, W0, evalOp, Nat.reduceEqDiff, Nat.reduceLT, ↓reduceIte, reduceCtorEq, hl, e0, og3, og9]
    refine ⟨rfl, ?_, ?_⟩ <;> simp only [List.length_set, W0, Nat.reduceEqDiff, Nat.reduceLT, ↓reduceIte, hl, e0]) ?_
  rintro envg10 _ ⟨rfl, hl, e2⟩
  try simp only [↓WD, W0, evalOp, Nat.reduceEqDiff, Nat.reduceLT, ↓reduceIte, reduceCtorEq, hl, e2]
  refine KP_ret (vs := [.str y8]) (by simp only [aresults, aresult, gs, List.length_set, Nat.reduceEqDiff, Nat.reduceLT, ↓reduceIte, hl, e2]) ?_
  obtain rfl := Option.some.inj hF
  exact ⟨rfl, S7⟩
end Go.Proofs.YtobhmahlenjheaaM
