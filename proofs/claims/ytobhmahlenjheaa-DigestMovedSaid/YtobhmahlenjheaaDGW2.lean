/- The abstract machine computes what the plain functions say: printed by lift.py. -/
import Derived.Test.YtobhmahlenjheaaDGW1
import Derived.KernelRfl
set_option linter.unusedSimpArgs false
set_option linter.unusedVariables false
namespace Go.Proofs.YtobhmahlenjheaaM
open Go Go.RowKit
set_option maxHeartbeats 4000000
set_option maxRecDepth 100000
theorem W_sha_state_step {K : PureK} (k123 : K 123 = some kf_123) (n101 : K 101 = none) (m : Nat) (hm : NF + 1 ≤ m) (h : AH) (v : GA8_u32) (k : Int) (w : Int) {r : GA8_u32} (hF : F_sha_state_step v k w = some r) :
    AR (acall Try.prog (hooksOf K) (drawnOf Try.prog (tabOf K)) m 101 [.agg [.int .u32 v.x0, .int .u32 v.x1, .int .u32 v.x2, .int .u32 v.x3, .int .u32 v.x4, .int .u32 v.x5, .int .u32 v.x6, .int .u32 v.x7], .int .u32 k, .int .u32 w] h) (fun v h' => v = .agg [.int .u32 r.x0, .int .u32 r.x1, .int .u32 r.x2, .int .u32 r.x3, .int .u32 r.x4, .int .u32 r.x5, .int .u32 r.x6, .int .u32 r.x7]) := by
  obtain ⟨m, rfl⟩ : ∃ k, m = k + 1 := ⟨m - 1, by omega⟩
  refine AR_call (hooksOf_none n101) Try.func101 rfl _ _ fun env hl he => ?_
  have e0 := he 0
  have e1 := he 1
  have e2 := he 2
  simp only [List.getD_cons_zero, List.getD_cons_succ] at e0 e1 e2
  simp only [Try.f101] at hl ⊢
  simp only [List.length_cons, List.length_nil, Nat.reduceAdd, Nat.reduceSub] at hl
  clear he
  have S0 : Sep h [] h [] := Sep.nil h
  rw [F_sha_state_step] at hF
  try simp only [↓WD, W0, evalOp, Nat.reduceEqDiff, Nat.reduceLT, ↓reduceIte, reduceCtorEq, hl, e0, e1, e2]
  rw [AW_region]
  obtain ⟨i1, h2, oa3, S4⟩ := S0.alloc 88 [.int .u32 v.x0, .int .u32 v.x1, .int .u32 v.x2, .int .u32 v.x3, .int .u32 v.x4, .int .u32 v.x5, .int .u32 v.x6, .int .u32 v.x7]
  have S6 : Sep h [] h2 [.blk i1 ([v.x0, v.x1, v.x2, v.x3, v.x4, v.x5, v.x6, v.x7].map (AV.int .u32)) 88] := S4
  obtain ⟨i7, h8, oa9, S10⟩ := S6.alloc 88 [.int .u32 0, .int .u32 0, .int .u32 0, .int .u32 0, .int .u32 0, .int .u32 0, .int .u32 0, .int .u32 0]
  have S12 : Sep h [] h8 [.blk i1 ([v.x0, v.x1, v.x2, v.x3, v.x4, v.x5, v.x6, v.x7].map (AV.int .u32)) 88, .blk i7 ([0, 0, 0, 0, 0, 0, 0, 0].map (AV.int .u32)) 88] := S10
  refine AE_joinR (fun e h' => h8 = h' ∧ e.length = 93 ∧ e.getD 1 .undef = .int .u32 k ∧ e.getD 2 .undef = .int .u32 w ∧ e.getD 3 .undef = .ptr i1 0 ∧ e.getD 6 .undef = .ptr i7 0) (by
    simp only [↓WE, WA, WL, aop, ofValue, ofCell, isConst, abin, acall1, abuiltin, aun, AV.cells, AV.one, Nat.reduceAdd, Int.reduceLT, Int.reduceLE, ↓WD, W0, evalOp, Nat.reduceEqDiff, Nat.reduceLT, ↓reduceIte, reduceCtorEq, hl, e0, e1, e2, oa3, zero_88, oa9]
    refine ⟨rfl, ?_, ?_, ?_, ?_, ?_⟩ <;> simp only [List.length_set, W0, Nat.reduceEqDiff, Nat.reduceLT, ↓reduceIte, hl, e0, e1, e2]) ?_
  rintro envg13 _ ⟨rfl, hl, e1, e2, e3, e6⟩
  try simp only [↓WD, W0, evalOp, Nat.reduceEqDiff, Nat.reduceLT, ↓reduceIte, reduceCtorEq, hl, e1, e2, e3, e6]
  rw [AW_drawn, AE_drawnK (Ksub.cons k123 Ksub.nil) (by kernel_rfl)]
  obtain ⟨_, q14, hF⟩ := obind hF
  have oi15 := ia_88 i1 0 .i64 (chkIdx_lo q14) (chkIdx_hi q14)
  obtain ⟨y17, qy17, hF⟩ := obind hF
  have ol16 := S12.load (P := Try.prog) 0 rfl (t := 85) (apart_idxA ag_85 qy17)
  obtain ⟨y18, qy18, hF⟩ := obind hF
  have og19 := fun (cf : CallF) (g : AH) => tab_hook (cf := cf) k123 (args := [.int .u32 y17, .int .i64 6]) (v := .int .u32 y18) ((kf_123_eq y17 6).trans (by rw [qy18]; rfl)) g
  obtain ⟨_, q20, hF⟩ := obind hF
  have oi21 := ia_88 i1 0 .i64 (chkIdx_lo q20) (chkIdx_hi q20)
  have ol22 := S12.load (P := Try.prog) 0 rfl (t := 85) (apart_idxA ag_85 qy17)
  obtain ⟨y24, qy24, hF⟩ := obind hF
  have og25 := fun (cf : CallF) (g : AH) => tab_hook (cf := cf) k123 (args := [.int .u32 y17, .int .i64 11]) (v := .int .u32 y24) ((kf_123_eq y17 11).trans (by rw [qy24]; rfl)) g
  obtain ⟨_, q26, hF⟩ := obind hF
  have oi27 := ia_88 i1 0 .i64 (chkIdx_lo q26) (chkIdx_hi q26)
  have ol28 := S12.load (P := Try.prog) 0 rfl (t := 85) (apart_idxA ag_85 qy17)
  obtain ⟨y30, qy30, hF⟩ := obind hF
  have og31 := fun (cf : CallF) (g : AH) => tab_hook (cf := cf) k123 (args := [.int .u32 y17, .int .i64 25]) (v := .int .u32 y30) ((kf_123_eq y17 25).trans (by rw [qy30]; rfl)) g
  refine AE_joinR (fun e h' => h8 = h' ∧ e.length = 93 ∧ e.getD 1 .undef = .int .u32 k ∧ e.getD 2 .undef = .int .u32 w ∧ e.getD 3 .undef = .ptr i1 0 ∧ e.getD 6 .undef = .ptr i7 0 ∧ e.getD 7 .undef = .int .u32 (xorI .u32 (xorI .u32 y18 y24) y30)) (by
    simp only [↓WE, WA, WL, aop, ofValue, ofCell, isConst, abin, acall1, abuiltin, aun, AV.cells, AV.one, Nat.reduceAdd, Int.reduceLT, Int.reduceLE, ↓WD, W0, evalOp, Nat.reduceEqDiff, Nat.reduceLT, ↓reduceIte, reduceCtorEq, hl, e1, e2, e3, e6, oi15, ol16, og19, oi21, ol22, og25, oi27, ol28, og31]
    refine ⟨rfl, ?_, ?_, ?_, ?_, ?_, ?_⟩ <;> simp only [List.length_set, W0, Nat.reduceEqDiff, Nat.reduceLT, ↓reduceIte, hl, e1, e2, e3, e6]) ?_
  rintro envg32 _ ⟨rfl, hl, e1, e2, e3, e6, e7⟩
  try simp only [↓WD, W0, evalOp, Nat.reduceEqDiff, Nat.reduceLT, ↓reduceIte, reduceCtorEq, hl, e1, e2, e3, e6, e7]
  rw [AW_region]
  obtain ⟨_, q33, hF⟩ := obind hF
  have oi34 := ia_88 i1 0 .i64 (chkIdx_lo q33) (chkIdx_hi q33)
  obtain ⟨y36, qy36, hF⟩ := obind hF
  have ol35 := S12.load (P := Try.prog) 0 rfl (t := 85) (apart_idxA ag_85 qy36)
  obtain ⟨_, q37, hF⟩ := obind hF
  have oi38 := ia_88 i1 0 .i64 (chkIdx_lo q37) (chkIdx_hi q37)
  have ol39 := S12.load (P := Try.prog) 0 rfl (t := 85) (apart_idxA ag_85 qy17)
  obtain ⟨_, q41, hF⟩ := obind hF
  have oi42 := ia_88 i1 0 .i64 (chkIdx_lo q41) (chkIdx_hi q41)
  obtain ⟨y44, qy44, hF⟩ := obind hF
  have ol43 := S12.load (P := Try.prog) 0 rfl (t := 85) (apart_idxA ag_85 qy44)
  obtain ⟨_, q45, hF⟩ := obind hF
  have oi46 := ia_88 i1 0 .i64 (chkIdx_lo q45) (chkIdx_hi q45)
  have ol47 := S12.load (P := Try.prog) 0 rfl (t := 85) (apart_idxA ag_85 qy17)
  obtain ⟨_, q49, hF⟩ := obind hF
  have oi50 := ia_88 i1 0 .i64 (chkIdx_lo q49) (chkIdx_hi q49)
  obtain ⟨y52, qy52, hF⟩ := obind hF
  have ol51 := S12.load (P := Try.prog) 0 rfl (t := 85) (apart_idxA ag_85 qy52)
  refine AE_joinR (fun e h' => h8 = h' ∧ e.length = 93 ∧ e.getD 3 .undef = .ptr i1 0 ∧ e.getD 6 .undef = .ptr i7 0 ∧ e.getD 8 .undef = .int .u32 (IntKind.u32.wrap ((IntKind.u32.wrap ((IntKind.u32.wrap ((IntKind.u32.wrap (y36 + (xorI .u32 (xorI .u32 y18 y24) y30))) + (xorI .u32 (andI .u32 y17 y44) (andI .u32 (xorI .u32 4294967295 y17) y52)))) + k)) + w))) (by
    simp only [↓WE, WA, WL, aop, ofValue, ofCell, isConst, abin, acall1, abuiltin, aun, AV.cells, AV.one, Nat.reduceAdd, Int.reduceLT, Int.reduceLE, ↓WD, W0, evalOp, Nat.reduceEqDiff, Nat.reduceLT, ↓reduceIte, reduceCtorEq, hl, e1, e2, e3, e6, e7, oi34, ol35, oi38, ol39, oi42, ol43, oi46, ol47, xm_u32, oi50, ol51]
    refine ⟨rfl, ?_, ?_, ?_, ?_⟩ <;> simp only [List.length_set, W0, Nat.reduceEqDiff, Nat.reduceLT, ↓reduceIte, hl, e1, e2, e3, e6, e7]) ?_
  rintro envg53 _ ⟨rfl, hl, e3, e6, e8⟩
  try simp only [↓WD, W0, evalOp, Nat.reduceEqDiff, Nat.reduceLT, ↓reduceIte, reduceCtorEq, hl, e3, e6, e8]
  rw [AW_drawn, AE_drawnK (Ksub.cons k123 Ksub.nil) (by kernel_rfl)]
  obtain ⟨_, q54, hF⟩ := obind hF
  have oi55 := ia_88 i1 0 .i64 (chkIdx_lo q54) (chkIdx_hi q54)
  obtain ⟨y57, qy57, hF⟩ := obind hF
  have ol56 := S12.load (P := Try.prog) 0 rfl (t := 85) (apart_idxA ag_85 qy57)
  obtain ⟨y58, qy58, hF⟩ := obind hF
  have og59 := fun (cf : CallF) (g : AH) => tab_hook (cf := cf) k123 (args := [.int .u32 y57, .int .i64 2]) (v := .int .u32 y58) ((kf_123_eq y57 2).trans (by rw [qy58]; rfl)) g
  obtain ⟨_, q60, hF⟩ := obind hF
  have oi61 := ia_88 i1 0 .i64 (chkIdx_lo q60) (chkIdx_hi q60)
  have ol62 := S12.load (P := Try.prog) 0 rfl (t := 85) (apart_idxA ag_85 qy57)
  obtain ⟨y64, qy64, hF⟩ := obind hF
  have og65 := fun (cf : CallF) (g : AH) => tab_hook (cf := cf) k123 (args := [.int .u32 y57, .int .i64 13]) (v := .int .u32 y64) ((kf_123_eq y57 13).trans (by rw [qy64]; rfl)) g
  obtain ⟨_, q66, hF⟩ := obind hF
  have oi67 := ia_88 i1 0 .i64 (chkIdx_lo q66) (chkIdx_hi q66)
  have ol68 := S12.load (P := Try.prog) 0 rfl (t := 85) (apart_idxA ag_85 qy57)
  obtain ⟨y70, qy70, hF⟩ := obind hF
  have og71 := fun (cf : CallF) (g : AH) => tab_hook (cf := cf) k123 (args := [.int .u32 y57, .int .i64 22]) (v := .int .u32 y70) ((kf_123_eq y57 22).trans (by rw [qy70]; rfl)) g
  refine AE_joinR (fun e h' => h8 = h' ∧ e.length = 93 ∧ e.getD 3 .undef = .ptr i1 0 ∧ e.getD 6 .undef = .ptr i7 0 ∧ e.getD 8 .undef = .int .u32 (IntKind.u32.wrap ((IntKind.u32.wrap ((IntKind.u32.wrap ((IntKind.u32.wrap (y36 + (xorI .u32 (xorI .u32 y18 y24) y30))) + (xorI .u32 (andI .u32 y17 y44) (andI .u32 (xorI .u32 4294967295 y17) y52)))) + k)) + w)) ∧ e.getD 9 .undef = .int .u32 (xorI .u32 (xorI .u32 y58 y64) y70)) (by
    simp only [↓WE, WA, WL, aop, ofValue, ofCell, isConst, abin, acall1, abuiltin, aun, AV.cells, AV.one, Nat.reduceAdd, Int.reduceLT, Int.reduceLE, ↓WD, W0, evalOp, Nat.reduceEqDiff, Nat.reduceLT, ↓reduceIte, reduceCtorEq, hl, e3, e6, e8, oi55, ol56, og59, oi61, ol62, og65, oi67, ol68, og71]
    refine ⟨rfl, ?_, ?_, ?_, ?_, ?_⟩ <;> simp only [List.length_set, W0, Nat.reduceEqDiff, Nat.reduceLT, ↓reduceIte, hl, e3, e6, e8]) ?_
  rintro envg72 _ ⟨rfl, hl, e3, e6, e8, e9⟩
  try simp only [↓WD, W0, evalOp, Nat.reduceEqDiff, Nat.reduceLT, ↓reduceIte, reduceCtorEq, hl, e3, e6, e8, e9]
  rw [AW_region]
  obtain ⟨_, q73, hF⟩ := obind hF
  have oi74 := ia_88 i1 0 .i64 (chkIdx_lo q73) (chkIdx_hi q73)
  have ol75 := S12.load (P := Try.prog) 0 rfl (t := 85) (apart_idxA ag_85 qy57)
  obtain ⟨_, q77, hF⟩ := obind hF
  have oi78 := ia_88 i1 0 .i64 (chkIdx_lo q77) (chkIdx_hi q77)
  obtain ⟨y80, qy80, hF⟩ := obind hF
  have ol79 := S12.load (P := Try.prog) 0 rfl (t := 85) (apart_idxA ag_85 qy80)
  obtain ⟨_, q81, hF⟩ := obind hF
  have oi82 := ia_88 i1 0 .i64 (chkIdx_lo q81) (chkIdx_hi q81)
  have ol83 := S12.load (P := Try.prog) 0 rfl (t := 85) (apart_idxA ag_85 qy57)
  obtain ⟨_, q85, hF⟩ := obind hF
  have oi86 := ia_88 i1 0 .i64 (chkIdx_lo q85) (chkIdx_hi q85)
  obtain ⟨y88, qy88, hF⟩ := obind hF
  have ol87 := S12.load (P := Try.prog) 0 rfl (t := 85) (apart_idxA ag_85 qy88)
  obtain ⟨_, q89, hF⟩ := obind hF
  have oi90 := ia_88 i1 0 .i64 (chkIdx_lo q89) (chkIdx_hi q89)
  have ol91 := S12.load (P := Try.prog) 0 rfl (t := 85) (apart_idxA ag_85 qy80)
  obtain ⟨_, q93, hF⟩ := obind hF
  have oi94 := ia_88 i1 0 .i64 (chkIdx_lo q93) (chkIdx_hi q93)
  have ol95 := S12.load (P := Try.prog) 0 rfl (t := 85) (apart_idxA ag_85 qy88)
  refine AE_joinR (fun e h' => h8 = h' ∧ e.length = 93 ∧ e.getD 3 .undef = .ptr i1 0 ∧ e.getD 6 .undef = .ptr i7 0 ∧ e.getD 8 .undef = .int .u32 (IntKind.u32.wrap ((IntKind.u32.wrap ((IntKind.u32.wrap ((IntKind.u32.wrap (y36 + (xorI .u32 (xorI .u32 y18 y24) y30))) + (xorI .u32 (andI .u32 y17 y44) (andI .u32 (xorI .u32 4294967295 y17) y52)))) + k)) + w)) ∧ e.getD 10 .undef = .int .u32 (IntKind.u32.wrap ((xorI .u32 (xorI .u32 y58 y64) y70) + (xorI .u32 (xorI .u32 (andI .u32 y57 y80) (andI .u32 y57 y88)) (andI .u32 y80 y88))))) (by
    simp only [↓WE, WA, WL, aop, ofValue, ofCell, isConst, abin, acall1, abuiltin, aun, AV.cells, AV.one, Nat.reduceAdd, Int.reduceLT, Int.reduceLE, ↓WD, W0, evalOp, Nat.reduceEqDiff, Nat.reduceLT, ↓reduceIte, reduceCtorEq, hl, e3, e6, e8, e9, oi74, ol75, oi78, ol79, oi82, ol83, oi86, ol87, oi90, ol91, oi94, ol95]
    refine ⟨rfl, ?_, ?_, ?_, ?_, ?_⟩ <;> simp only [List.length_set, W0, Nat.reduceEqDiff, Nat.reduceLT, ↓reduceIte, hl, e3, e6, e8, e9]) ?_
  rintro envg97 _ ⟨rfl, hl, e3, e6, e8, e10⟩
  try simp only [↓WD, W0, evalOp, Nat.reduceEqDiff, Nat.reduceLT, ↓reduceIte, reduceCtorEq, hl, e3, e6, e8, e10]
  rw [AW_region]
  obtain ⟨_, q98, hF⟩ := obind hF
  have oi99 := ia_88 i1 0 .i64 (chkIdx_lo q98) (chkIdx_hi q98)
  have ol100 := S12.load (P := Try.prog) 0 rfl (t := 85) (apart_idxA ag_85 qy57)
  obtain ⟨_, q102, hF⟩ := obind hF
  have oi103 := ia_88 i1 0 .i64 (chkIdx_lo q102) (chkIdx_hi q102)
  have ol104 := S12.load (P := Try.prog) 0 rfl (t := 85) (apart_idxA ag_85 qy80)
  obtain ⟨_, q106, hF⟩ := obind hF
  have oi107 := ia_88 i1 0 .i64 (chkIdx_lo q106) (chkIdx_hi q106)
  have ol108 := S12.load (P := Try.prog) 0 rfl (t := 85) (apart_idxA ag_85 qy88)
  obtain ⟨_, q110, hF⟩ := obind hF
  have oi111 := ia_88 i1 0 .i64 (chkIdx_lo q110) (chkIdx_hi q110)
  obtain ⟨y113, qy113, hF⟩ := obind hF
  have ol112 := S12.load (P := Try.prog) 0 rfl (t := 85) (apart_idxA ag_85 qy113)
  obtain ⟨_, q114, hF⟩ := obind hF
  have oi115 := ia_88 i1 0 .i64 (chkIdx_lo q114) (chkIdx_hi q114)
  have ol116 := S12.load (P := Try.prog) 0 rfl (t := 85) (apart_idxA ag_85 qy17)
  obtain ⟨_, q118, hF⟩ := obind hF
  have oi119 := ia_88 i1 0 .i64 (chkIdx_lo q118) (chkIdx_hi q118)
  have ol120 := S12.load (P := Try.prog) 0 rfl (t := 85) (apart_idxA ag_85 qy44)
  obtain ⟨_, q122, hF⟩ := obind hF
  have oi123 := ia_88 i1 0 .i64 (chkIdx_lo q122) (chkIdx_hi q122)
  have ol124 := S12.load (P := Try.prog) 0 rfl (t := 85) (apart_idxA ag_85 qy52)
  obtain ⟨_, q129, hF⟩ := obind hF
  obtain ⟨_, q130, hF⟩ := obind hF
  obtain ⟨h126, os127, S128⟩ := S12.storeAll (P := Try.prog) 1 rfl (t := 88) sz_88 q129 q130
  simp only [List.map_cons, List.map_nil] at os127
  have S131 : Sep h [] h126 [.blk i1 ([v.x0, v.x1, v.x2, v.x3, v.x4, v.x5, v.x6, v.x7].map (AV.int .u32)) 88, .blk i7 ([IntKind.u32.wrap ((IntKind.u32.wrap ((IntKind.u32.wrap ((IntKind.u32.wrap ((IntKind.u32.wrap (y36 + (xorI .u32 (xorI .u32 y18 y24) y30))) + (xorI .u32 (andI .u32 y17 y44) (andI .u32 (xorI .u32 4294967295 y17) y52)))) + k)) + w)) + (IntKind.u32.wrap ((xorI .u32 (xorI .u32 y58 y64) y70) + (xorI .u32 (xorI .u32 (andI .u32 y57 y80) (andI .u32 y57 y88)) (andI .u32 y80 y88))))), y57, y80, y88, IntKind.u32.wrap (y113 + (IntKind.u32.wrap ((IntKind.u32.wrap ((IntKind.u32.wrap ((IntKind.u32.wrap (y36 + (xorI .u32 (xorI .u32 y18 y24) y30))) + (xorI .u32 (andI .u32 y17 y44) (andI .u32 (xorI .u32 4294967295 y17) y52)))) + k)) + w))), y17, y44, y52].map (AV.int .u32)) 88] := S128
  refine AE_joinR (fun e h' => h126 = h' ∧ e.length = 93 ∧ e.getD 6 .undef = .ptr i7 0) (by
    simp only [↓WE, WA, WL, aop, ofValue, ofCell, isConst, abin, acall1, abuiltin, aun, AV.cells, AV.one, Nat.reduceAdd, Int.reduceLT, Int.reduceLE, ↓WD, W0, evalOp, Nat.reduceEqDiff, Nat.reduceLT, ↓reduceIte, reduceCtorEq, hl, e3, e6, e8, e10, oi99, ol100, oi103, ol104, oi107, ol108, oi111, ol112, oi115, ol116, oi119, ol120, oi123, ol124, bd_88_0_1_2_3_4_5_6_7, os127]
    refine ⟨rfl, ?_, ?_⟩ <;> simp only [List.length_set, W0, Nat.reduceEqDiff, Nat.reduceLT, ↓reduceIte, hl, e3, e6, e8, e10]) ?_
  rintro envg132 _ ⟨rfl, hl, e6⟩
  try simp only [↓WD, W0, evalOp, Nat.reduceEqDiff, Nat.reduceLT, ↓reduceIte, reduceCtorEq, hl, e6]
  have ol133 := S131.load (P := Try.prog) 1 rfl (t := 88) (off := 0) (v := .agg [.int .u32 (IntKind.u32.wrap ((IntKind.u32.wrap ((IntKind.u32.wrap ((IntKind.u32.wrap ((IntKind.u32.wrap (y36 + (xorI .u32 (xorI .u32 y18 y24) y30))) + (xorI .u32 (andI .u32 y17 y44) (andI .u32 (xorI .u32 4294967295 y17) y52)))) + k)) + w)) + (IntKind.u32.wrap ((xorI .u32 (xorI .u32 y58 y64) y70) + (xorI .u32 (xorI .u32 (andI .u32 y57 y80) (andI .u32 y57 y88)) (andI .u32 y80 y88)))))), .int .u32 y57, .int .u32 y80, .int .u32 y88, .int .u32 (IntKind.u32.wrap (y113 + (IntKind.u32.wrap ((IntKind.u32.wrap ((IntKind.u32.wrap ((IntKind.u32.wrap (y36 + (xorI .u32 (xorI .u32 y18 y24) y30))) + (xorI .u32 (andI .u32 y17 y44) (andI .u32 (xorI .u32 4294967295 y17) y52)))) + k)) + w)))), .int .u32 y17, .int .u32 y44, .int .u32 y52]) (by simp only [apart, ag_88, sz_88, List.map_cons, List.map_nil]; rfl)
  refine KP_ret (vs := [.agg [.int .u32 (IntKind.u32.wrap ((IntKind.u32.wrap ((IntKind.u32.wrap ((IntKind.u32.wrap ((IntKind.u32.wrap (y36 + (xorI .u32 (xorI .u32 y18 y24) y30))) + (xorI .u32 (andI .u32 y17 y44) (andI .u32 (xorI .u32 4294967295 y17) y52)))) + k)) + w)) + (IntKind.u32.wrap ((xorI .u32 (xorI .u32 y58 y64) y70) + (xorI .u32 (xorI .u32 (andI .u32 y57 y80) (andI .u32 y57 y88)) (andI .u32 y80 y88)))))), .int .u32 y57, .int .u32 y80, .int .u32 y88, .int .u32 (IntKind.u32.wrap (y113 + (IntKind.u32.wrap ((IntKind.u32.wrap ((IntKind.u32.wrap ((IntKind.u32.wrap (y36 + (xorI .u32 (xorI .u32 y18 y24) y30))) + (xorI .u32 (andI .u32 y17 y44) (andI .u32 (xorI .u32 4294967295 y17) y52)))) + k)) + w)))), .int .u32 y17, .int .u32 y44, .int .u32 y52]]) (by simp only [aresults, aresult, gs, List.length_set, Nat.reduceEqDiff, Nat.reduceLT, ↓reduceIte, hl, e6, ol133]) ?_
  obtain rfl := Option.some.inj hF
  exact rfl
theorem W_sha_state_blocks {K : PureK} (k101 : K 101 = some kf_101) (k123 : K 123 = some kf_123) (n99 : K 99 = none) (n100 : K 100 = none) (n63 : K 63 = none) (m : Nat) (hm : NF + 2 ≤ m) (h : AH) (v : GA8_u32) (s_ : List UInt8) {r : GA8_u32} (hF : F_sha_state_blocks v s_ = some r) :
    AR (acall Try.prog (hooksOf K) (drawnOf Try.prog (tabOf K)) m 63 [.agg [.int .u32 v.x0, .int .u32 v.x1, .int .u32 v.x2, .int .u32 v.x3, .int .u32 v.x4, .int .u32 v.x5, .int .u32 v.x6, .int .u32 v.x7], .str s_] h) (fun v h' => v = .agg [.int .u32 r.x0, .int .u32 r.x1, .int .u32 r.x2, .int .u32 r.x3, .int .u32 r.x4, .int .u32 r.x5, .int .u32 r.x6, .int .u32 r.x7]) := by
  obtain ⟨m, rfl⟩ : ∃ k, m = k + 1 := ⟨m - 1, by omega⟩
  refine AR_call (hooksOf_none n63) Try.func63 rfl _ _ fun env hl he => ?_
  have e0 := he 0
  have e1 := he 1
  simp only [List.getD_cons_zero, List.getD_cons_succ] at e0 e1
  simp only [Try.f63] at hl ⊢
  simp only [List.length_cons, List.length_nil, Nat.reduceAdd, Nat.reduceSub] at hl
  clear he
  have S0 : Sep h [] h [] := Sep.nil h
  rw [F_sha_state_blocks] at hF
  try simp only [↓WD, W0, evalOp, Nat.reduceEqDiff, Nat.reduceLT, ↓reduceIte, reduceCtorEq, hl, e0, e1]
  rw [AW_region]
  obtain ⟨i1, h2, oa3, S4⟩ := S0.alloc 88 [.int .u32 v.x0, .int .u32 v.x1, .int .u32 v.x2, .int .u32 v.x3, .int .u32 v.x4, .int .u32 v.x5, .int .u32 v.x6, .int .u32 v.x7]
  have S6 : Sep h [] h2 [.blk i1 ([v.x0, v.x1, v.x2, v.x3, v.x4, v.x5, v.x6, v.x7].map (AV.int .u32)) 88] := S4
  obtain ⟨i7, h8, oa9, S10⟩ := S6.alloc 88 [.int .u32 0, .int .u32 0, .int .u32 0, .int .u32 0, .int .u32 0, .int .u32 0, .int .u32 0, .int .u32 0]
  have S12 : Sep h [] h8 [.blk i1 ([v.x0, v.x1, v.x2, v.x3, v.x4, v.x5, v.x6, v.x7].map (AV.int .u32)) 88, .blk i7 ([0, 0, 0, 0, 0, 0, 0, 0].map (AV.int .u32)) 88] := S10
  refine AE_joinR (fun e h' => h8 = h' ∧ e.length = 48 ∧ e.getD 1 .undef = .str s_ ∧ e.getD 2 .undef = .ptr i1 0 ∧ e.getD 4 .undef = .ptr i7 0) (by
    simp only [↓WE, WA, WL, aop, ofValue, ofCell, isConst, abin, acall1, abuiltin, aun, AV.cells, AV.one, Nat.reduceAdd, Int.reduceLT, Int.reduceLE, ↓WD, W0, evalOp, Nat.reduceEqDiff, Nat.reduceLT, ↓reduceIte, reduceCtorEq, hl, e0, e1, oa3, zero_88, oa9]
    refine ⟨rfl, ?_, ?_, ?_, ?_⟩ <;> simp only [List.length_set, W0, Nat.reduceEqDiff, Nat.reduceLT, ↓reduceIte, hl, e0, e1]) ?_
  rintro envg13 _ ⟨rfl, hl, e1, e2, e4⟩
  try simp only [↓WD, W0, evalOp, Nat.reduceEqDiff, Nat.reduceLT, ↓reduceIte, reduceCtorEq, hl, e1, e2, e4]
  rw [AW_region]
  obtain ⟨y14, qy14, hF⟩ := obind hF
  obtain ⟨v19, h16, og15, i18, rfl, S17⟩ := (W_sha_added n99 m (by omega) h8  qy14).out
  have S21 : Sep h [] h16 [.blk i1 ([v.x0, v.x1, v.x2, v.x3, v.x4, v.x5, v.x6, v.x7].map (AV.int .u32)) 88, .blk i7 ([0, 0, 0, 0, 0, 0, 0, 0].map (AV.int .u32)) 88, .blk i18 (y14.map (AV.int .u32)) 147] := S12.call0 S17
  refine AE_joinR (fun e h' => h16 = h' ∧ e.length = 48 ∧ e.getD 1 .undef = .str s_ ∧ e.getD 2 .undef = .ptr i1 0 ∧ e.getD 4 .undef = .ptr i7 0 ∧ e.getD 5 .undef = .ptr i18 0) (by
    simp only [↓WE, WA, WL, aop, ofValue, ofCell, isConst, abin, acall1, abuiltin, aun, AV.cells, AV.one, Nat.reduceAdd, Int.reduceLT, Int.reduceLE, ↓WD, W0, evalOp, Nat.reduceEqDiff, Nat.reduceLT, ↓reduceIte, reduceCtorEq, hl, e1, e2, e4, og15]
    refine ⟨rfl, ?_, ?_, ?_, ?_, ?_⟩ <;> simp only [List.length_set, W0, Nat.reduceEqDiff, Nat.reduceLT, ↓reduceIte, hl, e1, e2, e4]) ?_
  rintro envg22 _ ⟨rfl, hl, e1, e2, e4, e5⟩
  try simp only [↓WD, W0, evalOp, Nat.reduceEqDiff, Nat.reduceLT, ↓reduceIte, reduceCtorEq, hl, e1, e2, e4, e5]
  obtain ⟨r296, qr296, hF⟩ := obind hF
  refine AW_lift (L_sha_state_blocks_1 y14) (fun s e h' => e.length = 48 ∧ e.getD 1 .undef = .str s.1 ∧ e.getD 2 .undef = .ptr i1 0 ∧ e.getD 4 .undef = .ptr i7 0 ∧ e.getD 5 .undef = .ptr i18 0 ∧ Sep h [] h' [.blk i1 (s.2.map (AV.int .u32)) 88, .blk i7 ([0, 0, 0, 0, 0, 0, 0, 0].map (AV.int .u32)) 88, .blk i18 (y14.map (AV.int .u32)) 147]) (fun r296 x e h' => x = .exit 0 ∧ e.length = 48 ∧ e.getD 2 .undef = .ptr i1 0 ∧ e.getD 4 .undef = .ptr i7 0 ∧ Sep h [] h' [.blk i1 (r296.map (AV.int .u32)) 88, .blk i7 ([0, 0, 0, 0, 0, 0, 0, 0].map (AV.int .u32)) 88]) qr296 (by omega) ?_ ?_ ?_
  · rintro s envr296 h159 or296 ⟨hl, e1, e2, e4, e5, S160⟩ wr296
    rw [L_sha_state_blocks_1] at wr296
    try simp only [↓WD, W0, evalOp, Nat.reduceEqDiff, Nat.reduceLT, ↓reduceIte, reduceCtorEq, hl, e1, e2, e4, e5]
    rw [AW_region]
    have ol161 := fun g : AH => alen_str (P := Try.prog) (h := g) (l := s.1) Try.underlying9
    refine AE_joinR (fun e h' => h159 = h' ∧ e.length = 48 ∧ e.getD 1 .undef = .str s.1 ∧ e.getD 2 .undef = .ptr i1 0 ∧ e.getD 4 .undef = .ptr i7 0 ∧ e.getD 5 .undef = .ptr i18 0 ∧ e.getD 13 .undef = .bool (decide ((s.1.length : Int) ≥ 64))) (by
      simp only [↓WE, WA, WL, aop, ofValue, ofCell, isConst, abin, acall1, abuiltin, aun, AV.cells, AV.one, Nat.reduceAdd, Int.reduceLT, Int.reduceLE, ↓WD, W0, evalOp, Nat.reduceEqDiff, Nat.reduceLT, ↓reduceIte, reduceCtorEq, hl, e1, e2, e4, e5, ol161]
      refine ⟨rfl, ?_, ?_, ?_, ?_, ?_, ?_⟩ <;> simp only [List.length_set, W0, Nat.reduceEqDiff, Nat.reduceLT, ↓reduceIte, hl, e1, e2, e4, e5]) ?_
    rintro envg162 _ ⟨rfl, hl, e1, e2, e4, e5, e13⟩
    try simp only [↓WD, W0, evalOp, Nat.reduceEqDiff, Nat.reduceLT, ↓reduceIte, reduceCtorEq, hl, e1, e2, e4, e5, e13]
    refine CondK_dec (fun c164 => ?_) (fun c164 => ?_)
    · rw [if_pos c164] at wr296
      try simp only [↓WD, W0, evalOp, Nat.reduceEqDiff, Nat.reduceLT, ↓reduceIte, reduceCtorEq, hl, e1, e2, e4, e5, e13]
      rw [AW_region]
      obtain ⟨y165, qy165, wr296⟩ := obind wr296
      obtain ⟨v170, h167, og166, i169, rfl, S168⟩ := (W_sha_words k123 n100 m (by omega) h159 s.1 qy165).out
      have S172 : Sep h [] h167 [.blk i1 (s.2.map (AV.int .u32)) 88, .blk i7 ([0, 0, 0, 0, 0, 0, 0, 0].map (AV.int .u32)) 88, .blk i18 (y14.map (AV.int .u32)) 147, .blk i169 (y165.map (AV.int .u32)) 147] := S160.call0 S168
      refine AE_joinR (fun e h' => h167 = h' ∧ e.length = 48 ∧ e.getD 1 .undef = .str s.1 ∧ e.getD 2 .undef = .ptr i1 0 ∧ e.getD 4 .undef = .ptr i7 0 ∧ e.getD 5 .undef = .ptr i18 0 ∧ e.getD 6 .undef = .ptr i169 0) (by
        simp only [↓WE, WA, WL, aop, ofValue, ofCell, isConst, abin, acall1, abuiltin, aun, AV.cells, AV.one, Nat.reduceAdd, Int.reduceLT, Int.reduceLE, ↓WD, W0, evalOp, Nat.reduceEqDiff, Nat.reduceLT, ↓reduceIte, reduceCtorEq, hl, e1, e2, e4, e5, e13, og166]
        refine ⟨rfl, ?_, ?_, ?_, ?_, ?_, ?_⟩ <;> simp only [List.length_set, W0, Nat.reduceEqDiff, Nat.reduceLT, ↓reduceIte, hl, e1, e2, e4, e5, e13]) ?_
      rintro envg173 _ ⟨rfl, hl, e1, e2, e4, e5, e6⟩
      try simp only [↓WD, W0, evalOp, Nat.reduceEqDiff, Nat.reduceLT, ↓reduceIte, reduceCtorEq, hl, e1, e2, e4, e5, e6]
      rw [AW_region]
      obtain ⟨a175, qa175, wr296⟩ := obind wr296
      have ol174 := S172.load (P := Try.prog) 0 rfl (t := 88) (off := 0) (v := .agg [.int .u32 a175.x0, .int .u32 a175.x1, .int .u32 a175.x2, .int .u32 a175.x3, .int .u32 a175.x4, .int .u32 a175.x5, .int .u32 a175.x6, .int .u32 a175.x7]) (by rw [GA8_u32.of_eq qa175]; simp only [apart, ag_88, sz_88, List.map_cons, List.map_nil]; rfl)
      obtain ⟨i176, h177, oa178, S179⟩ := S172.alloc 88 [.int .u32 0, .int .u32 0, .int .u32 0, .int .u32 0, .int .u32 0, .int .u32 0, .int .u32 0, .int .u32 0]
      have S181 : Sep h [] h177 [.blk i1 (s.2.map (AV.int .u32)) 88, .blk i7 ([0, 0, 0, 0, 0, 0, 0, 0].map (AV.int .u32)) 88, .blk i18 (y14.map (AV.int .u32)) 147, .blk i169 (y165.map (AV.int .u32)) 147, .blk i176 ([0, 0, 0, 0, 0, 0, 0, 0].map (AV.int .u32)) 88] := S179
      obtain ⟨_, q185, wr296⟩ := obind wr296
      obtain ⟨_, q186, wr296⟩ := obind wr296
      obtain ⟨h182, os183, S184⟩ := S181.storeAll (P := Try.prog) 4 rfl (t := 88) sz_88 q185 q186
      simp only [List.map_cons, List.map_nil] at os183
      have S187 : Sep h [] h182 [.blk i1 (s.2.map (AV.int .u32)) 88, .blk i7 ([0, 0, 0, 0, 0, 0, 0, 0].map (AV.int .u32)) 88, .blk i18 (y14.map (AV.int .u32)) 147, .blk i169 (y165.map (AV.int .u32)) 147, .blk i176 ([a175.x0, a175.x1, a175.x2, a175.x3, a175.x4, a175.x5, a175.x6, a175.x7].map (AV.int .u32)) 88] := S184
      refine AE_joinR (fun e h' => h182 = h' ∧ e.length = 48 ∧ e.getD 1 .undef = .str s.1 ∧ e.getD 2 .undef = .ptr i1 0 ∧ e.getD 4 .undef = .ptr i7 0 ∧ e.getD 5 .undef = .ptr i18 0 ∧ e.getD 6 .undef = .ptr i169 0 ∧ e.getD 7 .undef = .ptr i176 0) (by
        simp only [↓WE, WA, WL, aop, ofValue, ofCell, isConst, abin, acall1, abuiltin, aun, AV.cells, AV.one, Nat.reduceAdd, Int.reduceLT, Int.reduceLE, ↓WD, W0, evalOp, Nat.reduceEqDiff, Nat.reduceLT, ↓reduceIte, reduceCtorEq, hl, e1, e2, e4, e5, e6, ol174, zero_88, oa178, os183]
        refine ⟨rfl, ?_, ?_, ?_, ?_, ?_, ?_, ?_⟩ <;> simp only [List.length_set, W0, Nat.reduceEqDiff, Nat.reduceLT, ↓reduceIte, hl, e1, e2, e4, e5, e6]) ?_
      rintro envg188 _ ⟨rfl, hl, e1, e2, e4, e5, e6, e7⟩
      try simp only [↓WD, W0, evalOp, Nat.reduceEqDiff, Nat.reduceLT, ↓reduceIte, reduceCtorEq, hl, e1, e2, e4, e5, e6, e7]
      rw [AW_region]
      refine AE_joinR (fun e h' => h182 = h' ∧ e.length = 48 ∧ e.getD 1 .undef = .str s.1 ∧ e.getD 2 .undef = .ptr i1 0 ∧ e.getD 4 .undef = .ptr i7 0 ∧ e.getD 5 .undef = .ptr i18 0 ∧ e.getD 6 .undef = .ptr i169 0 ∧ e.getD 7 .undef = .ptr i176 0 ∧ e.getD 19 .undef = .int .i64 0) (by
        simp only [↓WE, WA, WL, aop, ofValue, ofCell, isConst, abin, acall1, abuiltin, aun, AV.cells, AV.one, Nat.reduceAdd, Int.reduceLT, Int.reduceLE, ↓WD, W0, evalOp, Nat.reduceEqDiff, Nat.reduceLT, ↓reduceIte, reduceCtorEq, hl, e1, e2, e4, e5, e6, e7]
        refine ⟨rfl, ?_, ?_, ?_, ?_, ?_, ?_, ?_, ?_⟩ <;> simp only [List.length_set, W0, Nat.reduceEqDiff, Nat.reduceLT, ↓reduceIte, hl, e1, e2, e4, e5, e6, e7]) ?_
      rintro envg189 _ ⟨rfl, hl, e1, e2, e4, e5, e6, e7, e19⟩
      try simp only [↓WD, W0, evalOp, Nat.reduceEqDiff, Nat.reduceLT, ↓reduceIte, reduceCtorEq, hl, e1, e2, e4, e5, e6, e7, e19]
      obtain ⟨r241, qr241, wr296⟩ := obind wr296
      refine AW_lift (L_sha_state_blocks_2 y14 y165) (fun s e h' => e.length = 48 ∧ e.getD 1 .undef = .str s.1 ∧ e.getD 2 .undef = .ptr i1 0 ∧ e.getD 4 .undef = .ptr i7 0 ∧ e.getD 5 .undef = .ptr i18 0 ∧ e.getD 6 .undef = .ptr i169 0 ∧ e.getD 7 .undef = .ptr i176 0 ∧ e.getD 19 .undef = .int .i64 s.2.2.2 ∧ Sep h [] h' [.blk i1 (s.2.1.map (AV.int .u32)) 88, .blk i7 ([0, 0, 0, 0, 0, 0, 0, 0].map (AV.int .u32)) 88, .blk i18 (y14.map (AV.int .u32)) 147, .blk i169 (y165.map (AV.int .u32)) 147, .blk i176 (s.2.2.1.map (AV.int .u32)) 88]) (fun r241 x e h' => x = .exit 2 ∧ e.length = 48 ∧ e.getD 1 .undef = .str r241.1 ∧ e.getD 2 .undef = .ptr i1 0 ∧ e.getD 4 .undef = .ptr i7 0 ∧ e.getD 5 .undef = .ptr i18 0 ∧ e.getD 7 .undef = .ptr i176 0 ∧ Sep h [] h' [.blk i1 (r241.2.1.map (AV.int .u32)) 88, .blk i7 ([0, 0, 0, 0, 0, 0, 0, 0].map (AV.int .u32)) 88, .blk i18 (y14.map (AV.int .u32)) 147, .blk i176 (r241.2.2.map (AV.int .u32)) 88]) qr241 (by omega) ?_ ?_ ?_
      · rintro s envr241 h215 or241 ⟨hl, e1, e2, e4, e5, e6, e7, e19, S216⟩ wr241
        rw [L_sha_state_blocks_2] at wr241
        try simp only [↓WD, W0, evalOp, Nat.reduceEqDiff, Nat.reduceLT, ↓reduceIte, reduceCtorEq, hl, e1, e2, e4, e5, e6, e7, e19]
        rw [AW_region]
        refine AE_joinR (fun e h' => h215 = h' ∧ e.length = 48 ∧ e.getD 1 .undef = .str s.1 ∧ e.getD 2 .undef = .ptr i1 0 ∧ e.getD 4 .undef = .ptr i7 0 ∧ e.getD 5 .undef = .ptr i18 0 ∧ e.getD 6 .undef = .ptr i169 0 ∧ e.getD 7 .undef = .ptr i176 0 ∧ e.getD 19 .undef = .int .i64 s.2.2.2 ∧ e.getD 20 .undef = .bool (decide (s.2.2.2 < 64))) (by
          simp only [↓WE, WA, WL, aop, ofValue, ofCell, isConst, abin, acall1, abuiltin, aun, AV.cells, AV.one, Nat.reduceAdd, Int.reduceLT, Int.reduceLE, ↓WD, W0, evalOp, Nat.reduceEqDiff, Nat.reduceLT, ↓reduceIte, reduceCtorEq, hl, e1, e2, e4, e5, e6, e7, e19]
          refine ⟨rfl, ?_, ?_, ?_, ?_, ?_, ?_, ?_, ?_, ?_⟩ <;> simp only [List.length_set, W0, Nat.reduceEqDiff, Nat.reduceLT, ↓reduceIte, hl, e1, e2, e4, e5, e6, e7, e19]) ?_
        rintro envg217 _ ⟨rfl, hl, e1, e2, e4, e5, e6, e7, e19, e20⟩
        try simp only [↓WD, W0, evalOp, Nat.reduceEqDiff, Nat.reduceLT, ↓reduceIte, reduceCtorEq, hl, e1, e2, e4, e5, e6, e7, e19, e20]
        refine CondK_dec (fun c219 => ?_) (fun c219 => ?_)
        · rw [if_pos c219] at wr241
          try simp only [↓WD, W0, evalOp, Nat.reduceEqDiff, Nat.reduceLT, ↓reduceIte, reduceCtorEq, hl, e1, e2, e4, e5, e6, e7, e19, e20]
          rw [AW_region]
          refine AE_joinR (fun e h' => h215 = h' ∧ e.length = 48 ∧ e.getD 1 .undef = .str s.1 ∧ e.getD 2 .undef = .ptr i1 0 ∧ e.getD 4 .undef = .ptr i7 0 ∧ e.getD 5 .undef = .ptr i18 0 ∧ e.getD 6 .undef = .ptr i169 0 ∧ e.getD 7 .undef = .ptr i176 0 ∧ e.getD 8 .undef = .int .i64 s.2.2.2 ∧ e.getD 19 .undef = .int .i64 s.2.2.2) (by
            simp only [↓WE, WA, WL, aop, ofValue, ofCell, isConst, abin, acall1, abuiltin, aun, AV.cells, AV.one, Nat.reduceAdd, Int.reduceLT, Int.reduceLE, ↓WD, W0, evalOp, Nat.reduceEqDiff, Nat.reduceLT, ↓reduceIte, reduceCtorEq, hl, e1, e2, e4, e5, e6, e7, e19, e20]
            refine ⟨rfl, ?_, ?_, ?_, ?_, ?_, ?_, ?_, ?_, ?_⟩ <;> simp only [List.length_set, W0, Nat.reduceEqDiff, Nat.reduceLT, ↓reduceIte, hl, e1, e2, e4, e5, e6, e7, e19, e20]) ?_
          rintro envg220 _ ⟨rfl, hl, e1, e2, e4, e5, e6, e7, e8, e19⟩
          try simp only [↓WD, W0, evalOp, Nat.reduceEqDiff, Nat.reduceLT, ↓reduceIte, reduceCtorEq, hl, e1, e2, e4, e5, e6, e7, e8, e19]
          rw [AW_drawn, AE_drawnK (Ksub.cons k101 (Ksub.cons k123 Ksub.nil)) (by kernel_rfl)]
          obtain ⟨a222, qa222, wr241⟩ := obind wr241
          have ol221 := S216.load (P := Try.prog) 4 rfl (t := 88) (off := 0) (v := .agg [.int .u32 a222.x0, .int .u32 a222.x1, .int .u32 a222.x2, .int .u32 a222.x3, .int .u32 a222.x4, .int .u32 a222.x5, .int .u32 a222.x6, .int .u32 a222.x7]) (by rw [GA8_u32.of_eq qa222]; simp only [apart, ag_88, sz_88, List.map_cons, List.map_nil]; rfl)
          obtain ⟨_, q223, wr241⟩ := obind wr241
          have oi224 := ia_147 i18 0 .i64 (chkIdx_lo q223) (chkIdx_hi q223)
          obtain ⟨y226, qy226, wr241⟩ := obind wr241
          have ol225 := S216.load (P := Try.prog) 2 rfl (t := 85) (apart_idxA ag_85 qy226)
          obtain ⟨_, q227, wr241⟩ := obind wr241
          have oi228 := ia_147 i169 0 .i64 (chkIdx_lo q227) (chkIdx_hi q227)
          obtain ⟨y230, qy230, wr241⟩ := obind wr241
          have ol229 := S216.load (P := Try.prog) 3 rfl (t := 85) (apart_idxA ag_85 qy230)
          obtain ⟨y231, qy231, wr241⟩ := obind wr241
          have og232 := fun (cf : CallF) (g : AH) => tab_hook (cf := cf) k101 (args := [.agg [.int .u32 a222.x0, .int .u32 a222.x1, .int .u32 a222.x2, .int .u32 a222.x3, .int .u32 a222.x4, .int .u32 a222.x5, .int .u32 a222.x6, .int .u32 a222.x7], .int .u32 y226, .int .u32 y230]) (v := .agg [.int .u32 y231.x0, .int .u32 y231.x1, .int .u32 y231.x2, .int .u32 y231.x3, .int .u32 y231.x4, .int .u32 y231.x5, .int .u32 y231.x6, .int .u32 y231.x7]) ((kf_101_eq a222 y226 y230).trans (by rw [qy231]; rfl)) g
          obtain ⟨_, q236, wr241⟩ := obind wr241
          obtain ⟨_, q237, wr241⟩ := obind wr241
          obtain ⟨h233, os234, S235⟩ := S216.storeAll (P := Try.prog) 4 rfl (t := 88) sz_88 q236 q237
          simp only [List.map_cons, List.map_nil] at os234
          have S238 : Sep h [] h233 [.blk i1 (s.2.1.map (AV.int .u32)) 88, .blk i7 ([0, 0, 0, 0, 0, 0, 0, 0].map (AV.int .u32)) 88, .blk i18 (y14.map (AV.int .u32)) 147, .blk i169 (y165.map (AV.int .u32)) 147, .blk i176 ([y231.x0, y231.x1, y231.x2, y231.x3, y231.x4, y231.x5, y231.x6, y231.x7].map (AV.int .u32)) 88] := S235
          refine AE_joinR (fun e h' => h233 = h' ∧ e.length = 48 ∧ e.getD 1 .undef = .str s.1 ∧ e.getD 2 .undef = .ptr i1 0 ∧ e.getD 4 .undef = .ptr i7 0 ∧ e.getD 5 .undef = .ptr i18 0 ∧ e.getD 6 .undef = .ptr i169 0 ∧ e.getD 7 .undef = .ptr i176 0 ∧ e.getD 19 .undef = .int .i64 s.2.2.2) (by
            simp only [↓WE, WA, WL, aop, ofValue, ofCell, isConst, abin, acall1, abuiltin, aun, AV.cells, AV.one, Nat.reduceAdd, Int.reduceLT, Int.reduceLE, ↓WD, W0, evalOp, Nat.reduceEqDiff, Nat.reduceLT, ↓reduceIte, reduceCtorEq, hl, e1, e2, e4, e5, e6, e7, e8, e19, ol221, oi224, ol225, oi228, ol229, og232, os234]
            refine ⟨rfl, ?_, ?_, ?_, ?_, ?_, ?_, ?_, ?_⟩ <;> simp only [List.length_set, W0, Nat.reduceEqDiff, Nat.reduceLT, ↓reduceIte, hl, e1, e2, e4, e5, e6, e7, e8, e19]) ?_
          rintro envg239 _ ⟨rfl, hl, e1, e2, e4, e5, e6, e7, e19⟩
          try simp only [↓WD, W0, evalOp, Nat.reduceEqDiff, Nat.reduceLT, ↓reduceIte, reduceCtorEq, hl, e1, e2, e4, e5, e6, e7, e19]
          rw [AW_region]
          refine AE_joinR (fun e h' => h233 = h' ∧ e.length = 48 ∧ e.getD 1 .undef = .str s.1 ∧ e.getD 2 .undef = .ptr i1 0 ∧ e.getD 4 .undef = .ptr i7 0 ∧ e.getD 5 .undef = .ptr i18 0 ∧ e.getD 6 .undef = .ptr i169 0 ∧ e.getD 7 .undef = .ptr i176 0 ∧ e.getD 19 .undef = .int .i64 (IntKind.i64.wrap (s.2.2.2 + 1))) (by
            simp only [↓WE, WA, WL, aop, ofValue, ofCell, isConst, abin, acall1, abuiltin, aun, AV.cells, AV.one, Nat.reduceAdd, Int.reduceLT, Int.reduceLE, ↓WD, W0, evalOp, Nat.reduceEqDiff, Nat.reduceLT, ↓reduceIte, reduceCtorEq, hl, e1, e2, e4, e5, e6, e7, e19]
            refine ⟨rfl, ?_, ?_, ?_, ?_, ?_, ?_, ?_, ?_⟩ <;> simp only [List.length_set, W0, Nat.reduceEqDiff, Nat.reduceLT, ↓reduceIte, hl, e1, e2, e4, e5, e6, e7, e19]) ?_
          rintro envg240 _ ⟨rfl, hl, e1, e2, e4, e5, e6, e7, e19⟩
          try simp only [↓WD, W0, evalOp, Nat.reduceEqDiff, Nat.reduceLT, ↓reduceIte, reduceCtorEq, hl, e1, e2, e4, e5, e6, e7, e19]
          obtain rfl := Option.some.inj wr241
          rw [KP_nil, QL_normal]
          refine ⟨_, rfl, ?_, ?_, ?_, ?_, ?_, ?_, ?_, ?_, S238⟩ <;> simp only [List.length_set, W0, Nat.reduceEqDiff, Nat.reduceLT, ↓reduceIte, hl, e1, e2, e4, e5, e6, e7, e19]
        · rw [if_neg c219] at wr241
          try simp only [↓WD, W0, evalOp, Nat.reduceEqDiff, Nat.reduceLT, ↓reduceIte, reduceCtorEq, hl, e1, e2, e4, e5, e6, e7, e19, e20]
          obtain rfl := Option.some.inj wr241
          rw [KP_nil, QL_exit]
          refine ⟨_, rfl, rfl, ?_, ?_, ?_, ?_, ?_, ?_, S216.pick [0, 1, 2, 4] (by decide) rfl⟩ <;> simp only [List.length_set, W0, Nat.reduceEqDiff, Nat.reduceLT, ↓reduceIte, hl, e1, e2, e4, e5, e6, e7, e19, e20]
      · refine ⟨?_, ?_, ?_, ?_, ?_, ?_, ?_, ?_, S187⟩ <;> simp only [List.length_set, W0, Nat.reduceEqDiff, Nat.reduceLT, ↓reduceIte, hl, e1, e2, e4, e5, e6, e7, e19]
      · rintro x envr241 h242 ⟨rfl, hl, e1, e2, e4, e5, e7, S243⟩
        try simp only [↓WD, W0, evalOp, Nat.reduceEqDiff, Nat.reduceLT, ↓reduceIte, reduceCtorEq, hl, e1, e2, e4, e5, e7]
        rw [AW_region]
        refine AE_joinR (fun e h' => h242 = h' ∧ e.length = 48 ∧ e.getD 1 .undef = .str r241.1 ∧ e.getD 2 .undef = .ptr i1 0 ∧ e.getD 4 .undef = .ptr i7 0 ∧ e.getD 5 .undef = .ptr i18 0 ∧ e.getD 7 .undef = .ptr i176 0 ∧ e.getD 35 .undef = .int .i64 0) (by
          simp only [↓WE, WA, WL, aop, ofValue, ofCell, isConst, abin, acall1, abuiltin, aun, AV.cells, AV.one, Nat.reduceAdd, Int.reduceLT, Int.reduceLE, ↓WD, W0, evalOp, Nat.reduceEqDiff, Nat.reduceLT, ↓reduceIte, reduceCtorEq, hl, e1, e2, e4, e5, e7]
          refine ⟨rfl, ?_, ?_, ?_, ?_, ?_, ?_, ?_⟩ <;> simp only [List.length_set, W0, Nat.reduceEqDiff, Nat.reduceLT, ↓reduceIte, hl, e1, e2, e4, e5, e7]) ?_
        rintro envg244 _ ⟨rfl, hl, e1, e2, e4, e5, e7, e35⟩
        try simp only [↓WD, W0, evalOp, Nat.reduceEqDiff, Nat.reduceLT, ↓reduceIte, reduceCtorEq, hl, e1, e2, e4, e5, e7, e35]
        obtain ⟨r291, qr291, wr296⟩ := obind wr296
        refine AW_lift (L_sha_state_blocks_3 r241) (fun s e h' => e.length = 48 ∧ e.getD 1 .undef = .str r241.1 ∧ e.getD 2 .undef = .ptr i1 0 ∧ e.getD 4 .undef = .ptr i7 0 ∧ e.getD 5 .undef = .ptr i18 0 ∧ e.getD 7 .undef = .ptr i176 0 ∧ e.getD 35 .undef = .int .i64 s.2 ∧ Sep h [] h' [.blk i1 (s.1.map (AV.int .u32)) 88, .blk i7 ([0, 0, 0, 0, 0, 0, 0, 0].map (AV.int .u32)) 88, .blk i18 (y14.map (AV.int .u32)) 147, .blk i176 (r241.2.2.map (AV.int .u32)) 88]) (fun r291 x e h' => x = .exit 4 ∧ e.length = 48 ∧ e.getD 1 .undef = .str r241.1 ∧ e.getD 2 .undef = .ptr i1 0 ∧ e.getD 4 .undef = .ptr i7 0 ∧ e.getD 5 .undef = .ptr i18 0 ∧ Sep h [] h' [.blk i1 (r291.map (AV.int .u32)) 88, .blk i7 ([0, 0, 0, 0, 0, 0, 0, 0].map (AV.int .u32)) 88, .blk i18 (y14.map (AV.int .u32)) 147]) qr291 (by omega) ?_ ?_ ?_
        · rintro s envr291 h268 or291 ⟨hl, e1, e2, e4, e5, e7, e35, S269⟩ wr291
          rw [L_sha_state_blocks_3] at wr291
          try simp only [↓WD, W0, evalOp, Nat.reduceEqDiff, Nat.reduceLT, ↓reduceIte, reduceCtorEq, hl, e1, e2, e4, e5, e7, e35]
          rw [AW_region]
          refine AE_joinR (fun e h' => h268 = h' ∧ e.length = 48 ∧ e.getD 1 .undef = .str r241.1 ∧ e.getD 2 .undef = .ptr i1 0 ∧ e.getD 4 .undef = .ptr i7 0 ∧ e.getD 5 .undef = .ptr i18 0 ∧ e.getD 7 .undef = .ptr i176 0 ∧ e.getD 35 .undef = .int .i64 s.2 ∧ e.getD 36 .undef = .bool (decide (s.2 < 8))) (by
            simp only [↓WE, WA, WL, aop, ofValue, ofCell, isConst, abin, acall1, abuiltin, aun, AV.cells, AV.one, Nat.reduceAdd, Int.reduceLT, Int.reduceLE, ↓WD, W0, evalOp, Nat.reduceEqDiff, Nat.reduceLT, ↓reduceIte, reduceCtorEq, hl, e1, e2, e4, e5, e7, e35]
            refine ⟨rfl, ?_, ?_, ?_, ?_, ?_, ?_, ?_, ?_⟩ <;> simp only [List.length_set, W0, Nat.reduceEqDiff, Nat.reduceLT, ↓reduceIte, hl, e1, e2, e4, e5, e7, e35]) ?_
          rintro envg270 _ ⟨rfl, hl, e1, e2, e4, e5, e7, e35, e36⟩
          try simp only [↓WD, W0, evalOp, Nat.reduceEqDiff, Nat.reduceLT, ↓reduceIte, reduceCtorEq, hl, e1, e2, e4, e5, e7, e35, e36]
          refine CondK_dec (fun c272 => ?_) (fun c272 => ?_)
          · rw [if_pos c272] at wr291
            try simp only [↓WD, W0, evalOp, Nat.reduceEqDiff, Nat.reduceLT, ↓reduceIte, reduceCtorEq, hl, e1, e2, e4, e5, e7, e35, e36]
            rw [AW_region]
            refine AE_joinR (fun e h' => h268 = h' ∧ e.length = 48 ∧ e.getD 1 .undef = .str r241.1 ∧ e.getD 2 .undef = .ptr i1 0 ∧ e.getD 4 .undef = .ptr i7 0 ∧ e.getD 5 .undef = .ptr i18 0 ∧ e.getD 7 .undef = .ptr i176 0 ∧ e.getD 9 .undef = .int .i64 s.2 ∧ e.getD 35 .undef = .int .i64 s.2) (by
              simp only [↓WE, WA, WL, aop, ofValue, ofCell, isConst, abin, acall1, abuiltin, aun, AV.cells, AV.one, Nat.reduceAdd, Int.reduceLT, Int.reduceLE, ↓WD, W0, evalOp, Nat.reduceEqDiff, Nat.reduceLT, ↓reduceIte, reduceCtorEq, hl, e1, e2, e4, e5, e7, e35, e36]
              refine ⟨rfl, ?_, ?_, ?_, ?_, ?_, ?_, ?_, ?_⟩ <;> simp only [List.length_set, W0, Nat.reduceEqDiff, Nat.reduceLT, ↓reduceIte, hl, e1, e2, e4, e5, e7, e35, e36]) ?_
            rintro envg273 _ ⟨rfl, hl, e1, e2, e4, e5, e7, e9, e35⟩
            try simp only [↓WD, W0, evalOp, Nat.reduceEqDiff, Nat.reduceLT, ↓reduceIte, reduceCtorEq, hl, e1, e2, e4, e5, e7, e9, e35]
            rw [AW_drawn, AE_drawnK (Ksub.cons k101 (Ksub.cons k123 Ksub.nil)) (by kernel_rfl)]
            obtain ⟨_, q274, wr291⟩ := obind wr291
            have oi275 := ia_88 i1 0 .i64 (chkIdx_lo q274) (chkIdx_hi q274)
            obtain ⟨y277, qy277, wr291⟩ := obind wr291
            have ol276 := S269.load (P := Try.prog) 0 rfl (t := 85) (apart_idxA ag_85 qy277)
            obtain ⟨_, q278, wr291⟩ := obind wr291
            have oi279 := ia_88 i176 0 .i64 (chkIdx_lo q278) (chkIdx_hi q278)
            obtain ⟨y281, qy281, wr291⟩ := obind wr291
            have ol280 := S269.load (P := Try.prog) 3 rfl (t := 85) (apart_idxA ag_85 qy281)
            obtain ⟨_, q282, wr291⟩ := obind wr291
            have oi283 := ia_88 i1 0 .i64 (chkIdx_lo q282) (chkIdx_hi q282)
            obtain ⟨y287, qy287, wr291⟩ := obind wr291
            obtain ⟨h284, os285, S286⟩ := S269.storeA (P := Try.prog) 0 rfl sz_85 qy287
            have S288 : Sep h [] h284 [.blk i1 (y287.map (AV.int .u32)) 88, .blk i7 ([0, 0, 0, 0, 0, 0, 0, 0].map (AV.int .u32)) 88, .blk i18 (y14.map (AV.int .u32)) 147, .blk i176 (r241.2.2.map (AV.int .u32)) 88] := S286
            refine AE_joinR (fun e h' => h284 = h' ∧ e.length = 48 ∧ e.getD 1 .undef = .str r241.1 ∧ e.getD 2 .undef = .ptr i1 0 ∧ e.getD 4 .undef = .ptr i7 0 ∧ e.getD 5 .undef = .ptr i18 0 ∧ e.getD 7 .undef = .ptr i176 0 ∧ e.getD 35 .undef = .int .i64 s.2) (by
              simp only [↓WE, WA, WL, aop, ofValue, ofCell, isConst, abin, acall1, abuiltin, aun, AV.cells, AV.one, Nat.reduceAdd, Int.reduceLT, Int.reduceLE, ↓WD, W0, evalOp, Nat.reduceEqDiff, Nat.reduceLT, ↓reduceIte, reduceCtorEq, hl, e1, e2, e4, e5, e7, e9, e35, oi275, ol276, oi279, ol280, oi283, os285]
              refine ⟨rfl, ?_, ?_, ?_, ?_, ?_, ?_, ?_⟩ <;> simp only [List.length_set, W0, Nat.reduceEqDiff, Nat.reduceLT, ↓reduceIte, hl, e1, e2, e4, e5, e7, e9, e35]) ?_
            rintro envg289 _ ⟨rfl, hl, e1, e2, e4, e5, e7, e35⟩
            try simp only [↓WD, W0, evalOp, Nat.reduceEqDiff, Nat.reduceLT, ↓reduceIte, reduceCtorEq, hl, e1, e2, e4, e5, e7, e35]
            rw [AW_region]
            refine AE_joinR (fun e h' => h284 = h' ∧ e.length = 48 ∧ e.getD 1 .undef = .str r241.1 ∧ e.getD 2 .undef = .ptr i1 0 ∧ e.getD 4 .undef = .ptr i7 0 ∧ e.getD 5 .undef = .ptr i18 0 ∧ e.getD 7 .undef = .ptr i176 0 ∧ e.getD 35 .undef = .int .i64 (IntKind.i64.wrap (s.2 + 1))) (by
              simp only [↓WE, WA, WL, aop, ofValue, ofCell, isConst, abin, acall1, abuiltin, aun, AV.cells, AV.one, Nat.reduceAdd, Int.reduceLT, Int.reduceLE, ↓WD, W0, evalOp, Nat.reduceEqDiff, Nat.reduceLT, ↓reduceIte, reduceCtorEq, hl, e1, e2, e4, e5, e7, e35]
              refine ⟨rfl, ?_, ?_, ?_, ?_, ?_, ?_, ?_⟩ <;> simp only [List.length_set, W0, Nat.reduceEqDiff, Nat.reduceLT, ↓reduceIte, hl, e1, e2, e4, e5, e7, e35]) ?_
            rintro envg290 _ ⟨rfl, hl, e1, e2, e4, e5, e7, e35⟩
            try simp only [↓WD, W0, evalOp, Nat.reduceEqDiff, Nat.reduceLT, ↓reduceIte, reduceCtorEq, hl, e1, e2, e4, e5, e7, e35]
            obtain rfl := Option.some.inj wr291
            rw [KP_nil, QL_normal]
            refine ⟨_, rfl, ?_, ?_, ?_, ?_, ?_, ?_, ?_, S288⟩ <;> simp only [List.length_set, W0, Nat.reduceEqDiff, Nat.reduceLT, ↓reduceIte, hl, e1, e2, e4, e5, e7, e35]
          · rw [if_neg c272] at wr291
            try simp only [↓WD, W0, evalOp, Nat.reduceEqDiff, Nat.reduceLT, ↓reduceIte, reduceCtorEq, hl, e1, e2, e4, e5, e7, e35, e36]
            obtain rfl := Option.some.inj wr291
            rw [KP_nil, QL_exit]
            refine ⟨_, rfl, rfl, ?_, ?_, ?_, ?_, ?_, S269.pick [0, 1, 2] (by decide) rfl⟩ <;> simp only [List.length_set, W0, Nat.reduceEqDiff, Nat.reduceLT, ↓reduceIte, hl, e1, e2, e4, e5, e7, e35, e36]
        · refine ⟨?_, ?_, ?_, ?_, ?_, ?_, ?_, S243⟩ <;> simp only [List.length_set, W0, Nat.reduceEqDiff, Nat.reduceLT, ↓reduceIte, hl, e1, e2, e4, e5, e7, e35]
        · rintro x envr291 h292 ⟨rfl, hl, e1, e2, e4, e5, S293⟩
          try simp only [↓WD, W0, evalOp, Nat.reduceEqDiff, Nat.reduceLT, ↓reduceIte, reduceCtorEq, hl, e1, e2, e4, e5]
          rw [AW_region]
          obtain ⟨s294, qs294, wr296⟩ := obind wr296
          have os294 := fun g : AH => sub_strF (P := Try.prog) (h := g) (k := .i64) Try.underlying9 qs294
          refine AE_joinR (fun e h' => h292 = h' ∧ e.length = 48 ∧ e.getD 1 .undef = .str s294 ∧ e.getD 2 .undef = .ptr i1 0 ∧ e.getD 4 .undef = .ptr i7 0 ∧ e.getD 5 .undef = .ptr i18 0) (by
            simp only [↓WE, WA, WL, aop, ofValue, ofCell, isConst, abin, acall1, abuiltin, aun, AV.cells, AV.one, Nat.reduceAdd, Int.reduceLT, Int.reduceLE, ↓WD, W0, evalOp, Nat.reduceEqDiff, Nat.reduceLT, ↓reduceIte, reduceCtorEq, hl, e1, e2, e4, e5, os294]
            refine ⟨rfl, ?_, ?_, ?_, ?_, ?_⟩ <;> simp only [List.length_set, W0, Nat.reduceEqDiff, Nat.reduceLT, ↓reduceIte, hl, e1, e2, e4, e5]) ?_
          rintro envg295 _ ⟨rfl, hl, e1, e2, e4, e5⟩
          try simp only [↓WD, W0, evalOp, Nat.reduceEqDiff, Nat.reduceLT, ↓reduceIte, reduceCtorEq, hl, e1, e2, e4, e5]
          obtain rfl := Option.some.inj wr296
          rw [KP_nil, QL_normal]
          refine ⟨_, rfl, ?_, ?_, ?_, ?_, ?_, S293⟩ <;> simp only [List.length_set, W0, Nat.reduceEqDiff, Nat.reduceLT, ↓reduceIte, hl, e1, e2, e4, e5]
    · rw [if_neg c164] at wr296
      try simp only [↓WD, W0, evalOp, Nat.reduceEqDiff, Nat.reduceLT, ↓reduceIte, reduceCtorEq, hl, e1, e2, e4, e5, e13]
      obtain rfl := Option.some.inj wr296
      rw [KP_nil, QL_exit]
      refine ⟨_, rfl, rfl, ?_, ?_, ?_, S160.pick [0, 1] (by decide) rfl⟩ <;> simp only [List.length_set, W0, Nat.reduceEqDiff, Nat.reduceLT, ↓reduceIte, hl, e1, e2, e4, e5, e13]
  · refine ⟨?_, ?_, ?_, ?_, ?_, S21⟩ <;> simp only [List.length_set, W0, Nat.reduceEqDiff, Nat.reduceLT, ↓reduceIte, hl, e1, e2, e4, e5]
  · rintro x envr296 h297 ⟨rfl, hl, e2, e4, S298⟩
    try simp only [↓WD, W0, evalOp, Nat.reduceEqDiff, Nat.reduceLT, ↓reduceIte, reduceCtorEq, hl, e2, e4]
    rw [AW_region]
    obtain ⟨a300, qa300, hF⟩ := obind hF
    have ol299 := S298.load (P := Try.prog) 0 rfl (t := 88) (off := 0) (v := .agg [.int .u32 a300.x0, .int .u32 a300.x1, .int .u32 a300.x2, .int .u32 a300.x3, .int .u32 a300.x4, .int .u32 a300.x5, .int .u32 a300.x6, .int .u32 a300.x7]) (by rw [GA8_u32.of_eq qa300]; simp only [apart, ag_88, sz_88, List.map_cons, List.map_nil]; rfl)
    obtain ⟨_, q304, hF⟩ := obind hF
    obtain ⟨_, q305, hF⟩ := obind hF
    obtain ⟨h301, os302, S303⟩ := S298.storeAll (P := Try.prog) 1 rfl (t := 88) sz_88 q304 q305
    simp only [List.map_cons, List.map_nil] at os302
    have S306 : Sep h [] h301 [.blk i1 (r296.map (AV.int .u32)) 88, .blk i7 ([a300.x0, a300.x1, a300.x2, a300.x3, a300.x4, a300.x5, a300.x6, a300.x7].map (AV.int .u32)) 88] := S303
    refine AE_joinR (fun e h' => h301 = h' ∧ e.length = 48 ∧ e.getD 4 .undef = .ptr i7 0) (by
      simp only [↓WE, WA, WL, aop, ofValue, ofCell, isConst, abin, acall1, abuiltin, aun, AV.cells, AV.one, Nat.reduceAdd, Int.reduceLT, Int.reduceLE, ↓WD, W0, evalOp, Nat.reduceEqDiff, Nat.reduceLT, ↓reduceIte, reduceCtorEq, hl, e2, e4, ol299, os302]
      refine ⟨rfl, ?_, ?_⟩ <;> simp only [List.length_set, W0, Nat.reduceEqDiff, Nat.reduceLT, ↓reduceIte, hl, e2, e4]) ?_
    rintro envg307 _ ⟨rfl, hl, e4⟩
    try simp only [↓WD, W0, evalOp, Nat.reduceEqDiff, Nat.reduceLT, ↓reduceIte, reduceCtorEq, hl, e4]
    have ol308 := S306.load (P := Try.prog) 1 rfl (t := 88) (off := 0) (v := .agg [.int .u32 a300.x0, .int .u32 a300.x1, .int .u32 a300.x2, .int .u32 a300.x3, .int .u32 a300.x4, .int .u32 a300.x5, .int .u32 a300.x6, .int .u32 a300.x7]) (by simp only [apart, ag_88, sz_88, List.map_cons, List.map_nil]; rfl)
    refine KP_ret (vs := [.agg [.int .u32 a300.x0, .int .u32 a300.x1, .int .u32 a300.x2, .int .u32 a300.x3, .int .u32 a300.x4, .int .u32 a300.x5, .int .u32 a300.x6, .int .u32 a300.x7]]) (by simp only [aresults, aresult, gs, List.length_set, Nat.reduceEqDiff, Nat.reduceLT, ↓reduceIte, hl, e4, ol308]) ?_
    obtain rfl := Option.some.inj hF
    exact rfl
theorem W_sha_high {K : PureK} (n65 : K 65 = none) (m : Nat) (hm : NF + 1 ≤ m) (h : AH) (n_ : Int) (size : Int) {r : (List UInt8)} (hF : F_sha_high n_ size = some r) :
    AR (acall Try.prog (hooksOf K) (drawnOf Try.prog (tabOf K)) m 65 [.int .u64 n_, .int .i64 size] h) (fun v h' => v = .str r) := by
  obtain ⟨m, rfl⟩ : ∃ k, m = k + 1 := ⟨m - 1, by omega⟩
  refine AR_call (hooksOf_none n65) Try.func65 rfl _ _ fun env hl he => ?_
  have e0 := he 0
  have e1 := he 1
  simp only [List.getD_cons_zero, List.getD_cons_succ] at e0 e1
  simp only [Try.f65] at hl ⊢
  simp only [List.length_cons, List.length_nil, Nat.reduceAdd, Nat.reduceSub] at hl
  clear he
  have S0 : Sep h [] h [] := Sep.nil h
  rw [F_sha_high] at hF
  try simp only [↓WD, W0, evalOp, Nat.reduceEqDiff, Nat.reduceLT, ↓reduceIte, reduceCtorEq, hl, e0, e1]
  rw [AW_region]
  refine AE_joinR (fun e h' => h = h' ∧ e.length = 28 ∧ e.getD 0 .undef = .int .u64 n_ ∧ e.getD 1 .undef = .int .i64 size) (by
    simp only [↓WE, WA, WL, aop, ofValue, ofCell, isConst, abin, acall1, abuiltin, aun, AV.cells, AV.one, Nat.reduceAdd, Int.reduceLT, Int.reduceLE, ↓WD, W0, evalOp, Nat.reduceEqDiff, Nat.reduceLT, ↓reduceIte, reduceCtorEq, hl, e0, e1]
    refine ⟨rfl, ?_, ?_, ?_⟩ <;> simp only [List.length_set, W0, Nat.reduceEqDiff, Nat.reduceLT, ↓reduceIte, hl, e0, e1]) ?_
  rintro envg1 _ ⟨rfl, hl, e0, e1⟩
  try simp only [↓WD, W0, evalOp, Nat.reduceEqDiff, Nat.reduceLT, ↓reduceIte, reduceCtorEq, hl, e0, e1]
  rw [AW_region]
  obtain ⟨zs2, qzs2, hF⟩ := obind hF
  obtain ⟨u3, h4, om5, S6⟩ := Sep.make (P := Try.prog) sl_28 (f := (cellI .u8)) (by rw [zero_5]; rfl) S0 qzs2 .i64 .i64
  have S8 : Sep h [] h4 [.row u3 5 1 (zs2.map (cellI .u8))] := S6
  refine AE_joinR (fun e h' => h4 = h' ∧ e.length = 28 ∧ e.getD 0 .undef = .int .u64 n_ ∧ e.getD 1 .undef = .int .i64 size ∧ e.getD 5 .undef = u3) (by
    simp only [↓WE, WA, WL, aop, ofValue, ofCell, isConst, abin, acall1, abuiltin, aun, AV.cells, AV.one, Nat.reduceAdd, Int.reduceLT, Int.reduceLE, ↓WD, W0, evalOp, Nat.reduceEqDiff, Nat.reduceLT, ↓reduceIte, reduceCtorEq, hl, e0, e1, om5]
    refine ⟨rfl, ?_, ?_, ?_, ?_⟩ <;> simp only [List.length_set, W0, Nat.reduceEqDiff, Nat.reduceLT, ↓reduceIte, hl, e0, e1]) ?_
  rintro envg9 _ ⟨rfl, hl, e0, e1, e5⟩
  try simp only [↓WD, W0, evalOp, Nat.reduceEqDiff, Nat.reduceLT, ↓reduceIte, reduceCtorEq, hl, e0, e1, e5]
  rw [AW_region]
  have ol10 := RO.len (P := Try.prog) sl_28 (S8.row_ro (i := 0) rfl)
  rw [List.length_map] at ol10
  refine AE_joinR (fun e h' => h4 = h' ∧ e.length = 28 ∧ e.getD 0 .undef = .int .u64 n_ ∧ e.getD 1 .undef = .int .i64 size ∧ e.getD 5 .undef = u3 ∧ e.getD 10 .undef = .int .i64 (zs2.length : Int) ∧ e.getD 11 .undef = .int .i64 0) (by
    simp only [↓WE, WA, WL, aop, ofValue, ofCell, isConst, abin, acall1, abuiltin, aun, AV.cells, AV.one, Nat.reduceAdd, Int.reduceLT, Int.reduceLE, ↓WD, W0, evalOp, Nat.reduceEqDiff, Nat.reduceLT, ↓reduceIte, reduceCtorEq, hl, e0, e1, e5, ol10]
    refine ⟨rfl, ?_, ?_, ?_, ?_, ?_, ?_⟩ <;> simp only [List.length_set, W0, Nat.reduceEqDiff, Nat.reduceLT, ↓reduceIte, hl, e0, e1, e5]) ?_
  rintro envg11 _ ⟨rfl, hl, e0, e1, e5, e10, e11⟩
  try simp only [↓WD, W0, evalOp, Nat.reduceEqDiff, Nat.reduceLT, ↓reduceIte, reduceCtorEq, hl, e0, e1, e5, e10, e11]
  obtain ⟨r52, qr52, hF⟩ := obind hF
  refine AW_lift (L_sha_high_1 zs2 n_ size) (fun s e h' => e.length = 28 ∧ e.getD 0 .undef = .int .u64 n_ ∧ e.getD 1 .undef = .int .i64 size ∧ e.getD 5 .undef = u3 ∧ e.getD 10 .undef = .int .i64 (zs2.length : Int) ∧ e.getD 11 .undef = .int .i64 s.2 ∧ Sep h [] h' [.row u3 5 1 (s.1.map (cellI .u8))]) (fun r52 x e h' => x = .exit 0 ∧ e.length = 28 ∧ e.getD 5 .undef = u3 ∧ Sep h [] h' [.row u3 5 1 (r52.map (cellI .u8))]) qr52 (by omega) ?_ ?_ ?_
  · rintro s envr52 h32 or52 ⟨hl, e0, e1, e5, e10, e11, S33⟩ wr52
    rw [L_sha_high_1] at wr52
    try simp only [↓WD, W0, evalOp, Nat.reduceEqDiff, Nat.reduceLT, ↓reduceIte, reduceCtorEq, hl, e0, e1, e5, e10, e11]
    rw [AW_region]
    refine AE_joinR (fun e h' => h32 = h' ∧ e.length = 28 ∧ e.getD 0 .undef = .int .u64 n_ ∧ e.getD 1 .undef = .int .i64 size ∧ e.getD 5 .undef = u3 ∧ e.getD 10 .undef = .int .i64 (zs2.length : Int) ∧ e.getD 11 .undef = .int .i64 s.2 ∧ e.getD 12 .undef = .bool (decide (s.2 < (zs2.length : Int)))) (by
      simp only [↓WE, WA, WL, aop, ofValue, ofCell, isConst, abin, acall1, abuiltin, aun, AV.cells, AV.one, Nat.reduceAdd, Int.reduceLT, Int.reduceLE, ↓WD, W0, evalOp, Nat.reduceEqDiff, Nat.reduceLT, ↓reduceIte, reduceCtorEq, hl, e0, e1, e5, e10, e11]
      refine ⟨rfl, ?_, ?_, ?_, ?_, ?_, ?_, ?_⟩ <;> simp only [List.length_set, W0, Nat.reduceEqDiff, Nat.reduceLT, ↓reduceIte, hl, e0, e1, e5, e10, e11]) ?_
    rintro envg34 _ ⟨rfl, hl, e0, e1, e5, e10, e11, e12⟩
    try simp only [↓WD, W0, evalOp, Nat.reduceEqDiff, Nat.reduceLT, ↓reduceIte, reduceCtorEq, hl, e0, e1, e5, e10, e11, e12]
    refine CondK_dec (fun c36 => ?_) (fun c36 => ?_)
    · rw [if_pos c36] at wr52
      try simp only [↓WD, W0, evalOp, Nat.reduceEqDiff, Nat.reduceLT, ↓reduceIte, reduceCtorEq, hl, e0, e1, e5, e10, e11, e12]
      rw [AW_region]
      refine AE_joinR (fun e h' => h32 = h' ∧ e.length = 28 ∧ e.getD 0 .undef = .int .u64 n_ ∧ e.getD 1 .undef = .int .i64 size ∧ e.getD 5 .undef = u3 ∧ e.getD 6 .undef = .int .i64 s.2 ∧ e.getD 10 .undef = .int .i64 (zs2.length : Int) ∧ e.getD 11 .undef = .int .i64 s.2) (by
        simp only [↓WE, WA, WL, aop, ofValue, ofCell, isConst, abin, acall1, abuiltin, aun, AV.cells, AV.one, Nat.reduceAdd, Int.reduceLT, Int.reduceLE, ↓WD, W0, evalOp, Nat.reduceEqDiff, Nat.reduceLT, ↓reduceIte, reduceCtorEq, hl, e0, e1, e5, e10, e11, e12]
        refine ⟨rfl, ?_, ?_, ?_, ?_, ?_, ?_, ?_⟩ <;> simp only [List.length_set, W0, Nat.reduceEqDiff, Nat.reduceLT, ↓reduceIte, hl, e0, e1, e5, e10, e11, e12]) ?_
      rintro envg37 _ ⟨rfl, hl, e0, e1, e5, e6, e10, e11⟩
      try simp only [↓WD, W0, evalOp, Nat.reduceEqDiff, Nat.reduceLT, ↓reduceIte, reduceCtorEq, hl, e0, e1, e5, e6, e10, e11]
      rw [AW_region]
      obtain ⟨y38, qy38, wr52⟩ := obind wr52
      have oy38 := shr_int (k := .u64) qy38
      have oc39 := fun g : AH => aconv_int (P := Try.prog) (h := g) (n := y38) (k' := .u64) Try.underlying24 Try.underlying5
      obtain ⟨x40, qx40, wr52⟩ := obind wr52
      obtain ⟨i41, off42, oi43, hp44⟩ := RO.addr (P := Try.prog) sl_28 (S33.row_ro (i := 0) rfl) qx40
      obtain ⟨y48, qy48, wr52⟩ := obind wr52
      obtain ⟨h45, os46, S47⟩ := S33.rstore (P := Try.prog) 0 rfl hp44 (x := x40) (z := IntKind.u8.wrap y38) (by first | exact qx40 | (simp only [idxL] at *; assumption)) (t := 5) (o := 0) (v := .int .u8 (IntKind.u8.wrap y38)) rfl sz_5 rfl (by simp) rfl qy48
      simp only [Nat.add_zero] at os46
      have S49 : Sep h [] h45 [.row u3 5 1 (y48.map (cellI .u8))] := S47
      refine AE_joinR (fun e h' => h45 = h' ∧ e.length = 28 ∧ e.getD 0 .undef = .int .u64 n_ ∧ e.getD 1 .undef = .int .i64 size ∧ e.getD 5 .undef = u3 ∧ e.getD 10 .undef = .int .i64 (zs2.length : Int) ∧ e.getD 11 .undef = .int .i64 s.2) (by
        simp only [↓WE, WA, WL, aop, ofValue, ofCell, isConst, abin, acall1, abuiltin, aun, AV.cells, AV.one, Nat.reduceAdd, Int.reduceLT, Int.reduceLE, ↓WD, W0, evalOp, Nat.reduceEqDiff, Nat.reduceLT, ↓reduceIte, reduceCtorEq, hl, e0, e1, e5, e6, e10, e11, oy38, oc39, oi43, os46]
        refine ⟨rfl, ?_, ?_, ?_, ?_, ?_, ?_⟩ <;> simp only [List.length_set, W0, Nat.reduceEqDiff, Nat.reduceLT, ↓reduceIte, hl, e0, e1, e5, e6, e10, e11]) ?_
      rintro envg50 _ ⟨rfl, hl, e0, e1, e5, e10, e11⟩
      try simp only [↓WD, W0, evalOp, Nat.reduceEqDiff, Nat.reduceLT, ↓reduceIte, reduceCtorEq, hl, e0, e1, e5, e10, e11]
      rw [AW_region]
      refine AE_joinR (fun e h' => h45 = h' ∧ e.length = 28 ∧ e.getD 0 .undef = .int .u64 n_ ∧ e.getD 1 .undef = .int .i64 size ∧ e.getD 5 .undef = u3 ∧ e.getD 10 .undef = .int .i64 (zs2.length : Int) ∧ e.getD 11 .undef = .int .i64 (IntKind.i64.wrap (s.2 + 1))) (by
        simp only [↓WE, WA, WL, aop, ofValue, ofCell, isConst, abin, acall1, abuiltin, aun, AV.cells, AV.one, Nat.reduceAdd, Int.reduceLT, Int.reduceLE, ↓WD, W0, evalOp, Nat.reduceEqDiff, Nat.reduceLT, ↓reduceIte, reduceCtorEq, hl, e0, e1, e5, e10, e11]
        refine ⟨rfl, ?_, ?_, ?_, ?_, ?_, ?_⟩ <;> simp only [List.length_set, W0, Nat.reduceEqDiff, Nat.reduceLT, ↓reduceIte, hl, e0, e1, e5, e10, e11]) ?_
      rintro envg51 _ ⟨rfl, hl, e0, e1, e5, e10, e11⟩
      try simp only [↓WD, W0, evalOp, Nat.reduceEqDiff, Nat.reduceLT, ↓reduceIte, reduceCtorEq, hl, e0, e1, e5, e10, e11]
      obtain rfl := Option.some.inj wr52
      rw [KP_nil, QL_normal]
      refine ⟨_, rfl, ?_, ?_, ?_, ?_, ?_, ?_, S49⟩ <;> simp only [List.length_set, W0, Nat.reduceEqDiff, Nat.reduceLT, ↓reduceIte, hl, e0, e1, e5, e10, e11]
    · rw [if_neg c36] at wr52
      try simp only [↓WD, W0, evalOp, Nat.reduceEqDiff, Nat.reduceLT, ↓reduceIte, reduceCtorEq, hl, e0, e1, e5, e10, e11, e12]
      obtain rfl := Option.some.inj wr52
      rw [KP_nil, QL_exit]
      refine ⟨_, rfl, rfl, ?_, ?_, S33⟩ <;> simp only [List.length_set, W0, Nat.reduceEqDiff, Nat.reduceLT, ↓reduceIte, hl, e0, e1, e5, e10, e11, e12]
  · refine ⟨?_, ?_, ?_, ?_, ?_, ?_, S8⟩ <;> simp only [List.length_set, W0, Nat.reduceEqDiff, Nat.reduceLT, ↓reduceIte, hl, e0, e1, e5, e10, e11]
  · rintro x envr52 h53 ⟨rfl, hl, e5, S54⟩
    try simp only [↓WD, W0, evalOp, Nat.reduceEqDiff, Nat.reduceLT, ↓reduceIte, reduceCtorEq, hl, e5]
    rw [AW_region]
    have oc55 := RO.str (P := Try.prog) Try.underlying28 Try.underlying5 Try.underlying9 (S54.row_ro (i := 0) rfl)
    refine AE_joinR (fun e h' => h53 = h' ∧ e.length = 28 ∧ e.getD 4 .undef = .str (r52.map byt)) (by
      simp only [↓WE, WA, WL, aop, ofValue, ofCell, isConst, abin, acall1, abuiltin, aun, AV.cells, AV.one, Nat.reduceAdd, Int.reduceLT, Int.reduceLE, ↓WD, W0, evalOp, Nat.reduceEqDiff, Nat.reduceLT, ↓reduceIte, reduceCtorEq, hl, e5, oc55]
      refine ⟨rfl, ?_, ?_⟩ <;> simp only [List.length_set, W0, Nat.reduceEqDiff, Nat.reduceLT, ↓reduceIte, hl, e5]) ?_
    rintro envg56 _ ⟨rfl, hl, e4⟩
    try simp only [↓WD, W0, evalOp, Nat.reduceEqDiff, Nat.reduceLT, ↓reduceIte, reduceCtorEq, hl, e4]
    refine KP_ret (vs := [.str (r52.map byt)]) (by simp only [aresults, aresult, gs, List.length_set, Nat.reduceEqDiff, Nat.reduceLT, ↓reduceIte, hl, e4]) ?_
    obtain rfl := Option.some.inj hF
    exact rfl
theorem W_sha_Of {K : PureK} (k62 : K 62 = some kf_62) (k63 : K 63 = some kf_63) (k64 : K 64 = some kf_64) (k65 : K 65 = some kf_65) (k128 : K 128 = some hb77) (n66 : K 66 = none) (n67 : K 67 = none) (n106 : K 106 = none) (n16 : K 16 = none) (m : Nat) (hm : NF + 4 ≤ m) (h : AH) (s_ : List UInt8) {r : (List UInt8)} (hF : F_sha_Of s_ = some r) :
    AR (acall Try.prog (hooksOf K) (drawnOf Try.prog (tabOf K)) m 16 [.str s_] h) (fun v h' => v = .str r) := by
  obtain ⟨m, rfl⟩ : ∃ k, m = k + 1 := ⟨m - 1, by omega⟩
  refine AR_call (hooksOf_none n16) Try.func16 rfl _ _ fun env hl he => ?_
  have e0 := he 0
  simp only [List.getD_cons_zero, List.getD_cons_succ] at e0
  simp only [Try.f16] at hl ⊢
  simp only [List.length_cons, List.length_nil, Nat.reduceAdd, Nat.reduceSub] at hl
  clear he
  have S0 : Sep h [] h [] := Sep.nil h
  rw [F_sha_Of] at hF
  try simp only [↓WD, W0, evalOp, Nat.reduceEqDiff, Nat.reduceLT, ↓reduceIte, reduceCtorEq, hl, e0]
  rw [AW_region]
  refine AE_joinR (fun e h' => h = h' ∧ e.length = 47 ∧ e.getD 0 .undef = .str s_) (by
    simp only [↓WE, WA, WL, aop, ofValue, ofCell, isConst, abin, acall1, abuiltin, aun, AV.cells, AV.one, Nat.reduceAdd, Int.reduceLT, Int.reduceLE, ↓WD, W0, evalOp, Nat.reduceEqDiff, Nat.reduceLT, ↓reduceIte, reduceCtorEq, hl, e0]
    refine ⟨rfl, ?_, ?_⟩ <;> simp only [List.length_set, W0, Nat.reduceEqDiff, Nat.reduceLT, ↓reduceIte, hl, e0]) ?_
  rintro envg1 _ ⟨rfl, hl, e0⟩
  try simp only [↓WD, W0, evalOp, Nat.reduceEqDiff, Nat.reduceLT, ↓reduceIte, reduceCtorEq, hl, e0]
  rw [AW_region]
  have ol2 := fun g : AH => alen_str (P := Try.prog) (h := g) (l := s_) Try.underlying9
  obtain ⟨y3, qy3, hF⟩ := obind hF
  have oy3 := quo_int (k := .i64) qy3
  refine AE_joinR (fun e h' => h = h' ∧ e.length = 47 ∧ e.getD 0 .undef = .str s_ ∧ e.getD 3 .undef = .int .i64 (IntKind.i64.wrap (y3 * 64))) (by
    simp only [↓WE, WA, WL, aop, ofValue, ofCell, isConst, abin, acall1, abuiltin, aun, AV.cells, AV.one, Nat.reduceAdd, Int.reduceLT, Int.reduceLE, ↓WD, W0, evalOp, Nat.reduceEqDiff, Nat.reduceLT, ↓reduceIte, reduceCtorEq, hl, e0, ol2, oy3]
    refine ⟨rfl, ?_, ?_, ?_⟩ <;> simp only [List.length_set, W0, Nat.reduceEqDiff, Nat.reduceLT, ↓reduceIte, hl, e0]) ?_
  rintro envg4 _ ⟨rfl, hl, e0, e3⟩
  try simp only [↓WD, W0, evalOp, Nat.reduceEqDiff, Nat.reduceLT, ↓reduceIte, reduceCtorEq, hl, e0, e3]
  rw [AW_drawn, AE_drawnK (Ksub.cons k62 (Ksub.cons k63 (Ksub.cons k64 (Ksub.cons k65 (Ksub.cons k128 Ksub.nil))))) (by kernel_rfl)]
  obtain ⟨y5, qy5, hF⟩ := obind hF
  have og6 := fun (cf : CallF) (g : AH) => tab_hook (cf := cf) k62 (args := []) (v := .agg [.int .u32 y5.x0, .int .u32 y5.x1, .int .u32 y5.x2, .int .u32 y5.x3, .int .u32 y5.x4, .int .u32 y5.x5, .int .u32 y5.x6, .int .u32 y5.x7]) ((kf_62_eq ).trans (by rw [qy5]; rfl)) g
  obtain ⟨s7, qs7, hF⟩ := obind hF
  have os7 := fun g : AH => sub_strT (P := Try.prog) (h := g) (k := .i64) Try.underlying9 qs7
  obtain ⟨y8, qy8, hF⟩ := obind hF
  have og9 := fun (cf : CallF) (g : AH) => tab_hook (cf := cf) k63 (args := [.agg [.int .u32 y5.x0, .int .u32 y5.x1, .int .u32 y5.x2, .int .u32 y5.x3, .int .u32 y5.x4, .int .u32 y5.x5, .int .u32 y5.x6, .int .u32 y5.x7], .str s7]) (v := .agg [.int .u32 y8.x0, .int .u32 y8.x1, .int .u32 y8.x2, .int .u32 y8.x3, .int .u32 y8.x4, .int .u32 y8.x5, .int .u32 y8.x6, .int .u32 y8.x7]) ((kf_63_eq y5 s7).trans (by rw [qy8]; rfl)) g
  obtain ⟨i10, h11, oa12, S13⟩ := S0.alloc 88 [.int .u32 0, .int .u32 0, .int .u32 0, .int .u32 0, .int .u32 0, .int .u32 0, .int .u32 0, .int .u32 0]
  have S15 : Sep h [] h11 [.blk i10 ([0, 0, 0, 0, 0, 0, 0, 0].map (AV.int .u32)) 88] := S13
  obtain ⟨_, q19, hF⟩ := obind hF
  obtain ⟨_, q20, hF⟩ := obind hF
  obtain ⟨h16, os17, S18⟩ := S15.storeAll (P := Try.prog) 0 rfl (t := 88) sz_88 q19 q20
  simp only [List.map_cons, List.map_nil] at os17
  have S21 : Sep h [] h16 [.blk i10 ([y8.x0, y8.x1, y8.x2, y8.x3, y8.x4, y8.x5, y8.x6, y8.x7].map (AV.int .u32)) 88] := S18
  refine AE_joinR (fun e h' => h16 = h' ∧ e.length = 47 ∧ e.getD 0 .undef = .str s_ ∧ e.getD 3 .undef = .int .i64 (IntKind.i64.wrap (y3 * 64)) ∧ e.getD 4 .undef = .ptr i10 0) (by
    simp only [↓WE, WA, WL, aop, ofValue, ofCell, isConst, abin, acall1, abuiltin, aun, AV.cells, AV.one, Nat.reduceAdd, Int.reduceLT, Int.reduceLE, ↓WD, W0, evalOp, Nat.reduceEqDiff, Nat.reduceLT, ↓reduceIte, reduceCtorEq, hl, e0, e3, og6, os7, og9, zero_88, oa12, os17]
    refine ⟨rfl, ?_, ?_, ?_, ?_⟩ <;> simp only [List.length_set, W0, Nat.reduceEqDiff, Nat.reduceLT, ↓reduceIte, hl, e0, e3]) ?_
  rintro envg22 _ ⟨rfl, hl, e0, e3, e4⟩
  try simp only [↓WD, W0, evalOp, Nat.reduceEqDiff, Nat.reduceLT, ↓reduceIte, reduceCtorEq, hl, e0, e3, e4]
  rw [AW_region]
  obtain ⟨s23, qs23, hF⟩ := obind hF
  have os23 := fun g : AH => sub_strF (P := Try.prog) (h := g) (k := .i64) Try.underlying9 qs23
  obtain ⟨s24, qs24, hF⟩ := obind hF
  have os24 := cat_str qs24
  refine AE_joinR (fun e h' => h16 = h' ∧ e.length = 47 ∧ e.getD 0 .undef = .str s_ ∧ e.getD 4 .undef = .ptr i10 0 ∧ e.getD 5 .undef = .str s24) (by
    simp only [↓WE, WA, WL, aop, ofValue, ofCell, isConst, abin, acall1, abuiltin, aun, AV.cells, AV.one, Nat.reduceAdd, Int.reduceLT, Int.reduceLE, ↓WD, W0, evalOp, Nat.reduceEqDiff, Nat.reduceLT, ↓reduceIte, reduceCtorEq, hl, e0, e3, e4, os23, os24]
    refine ⟨rfl, ?_, ?_, ?_, ?_⟩ <;> simp only [List.length_set, W0, Nat.reduceEqDiff, Nat.reduceLT, ↓reduceIte, hl, e0, e3, e4]) ?_
  rintro envg25 _ ⟨rfl, hl, e0, e4, e5⟩
  try simp only [↓WD, W0, evalOp, Nat.reduceEqDiff, Nat.reduceLT, ↓reduceIte, reduceCtorEq, hl, e0, e4, e5]
  rw [AW_region]
  have ol26 := fun g : AH => alen_str (P := Try.prog) (h := g) (l := s24) Try.underlying9
  obtain ⟨y27, qy27, hF⟩ := obind hF
  have oy27 := rem_int (k := .i64) qy27
  obtain ⟨y28, qy28, hF⟩ := obind hF
  have og29 := fun (D : Drawn) (n : Nat) (g : AH) => call_hook (P := Try.prog) (D := D) k64 n (args := [.str [0], .int .i64 y27]) (v := .str y28) ((kf_64_eq [0] y27).trans (by rw [qy28]; rfl)) g
  have ol30 := fun g : AH => alen_str (P := Try.prog) (h := g) (l := s_) Try.underlying9
  have oc31 := fun g : AH => aconv_int (P := Try.prog) (h := g) (n := (s_.length : Int)) (k' := .i64) Try.underlying3 Try.underlying24
  obtain ⟨y32, qy32, hF⟩ := obind hF
  have og33 := fun (D : Drawn) (n : Nat) (g : AH) => call_hook (P := Try.prog) (D := D) k65 n (args := [.int .u64 (IntKind.u64.wrap (8 * (IntKind.u64.wrap (s_.length : Int)))), .int .i64 8]) (v := .str y32) ((kf_65_eq (IntKind.u64.wrap (8 * (IntKind.u64.wrap (s_.length : Int)))) 8).trans (by rw [qy32]; rfl)) g
  obtain ⟨s34, qs34, hF⟩ := obind hF
  have os34 := cat_str qs34
  obtain ⟨s35, qs35, hF⟩ := obind hF
  have os35 := cat_str qs35
  refine AE_joinR (fun e h' => h16 = h' ∧ e.length = 47 ∧ e.getD 4 .undef = .ptr i10 0 ∧ e.getD 5 .undef = .str s35) (by
    simp only [↓WE, WA, WL, aop, ofValue, ofCell, isConst, abin, acall1, abuiltin, aun, AV.cells, AV.one, Nat.reduceAdd, Int.reduceLT, Int.reduceLE, ↓WD, W0, evalOp, Nat.reduceEqDiff, Nat.reduceLT, ↓reduceIte, reduceCtorEq, hl, e0, e4, e5, ol26, oy27, og29, ol30, oc31, og33, os34, os35]
    refine ⟨rfl, ?_, ?_, ?_⟩ <;> simp only [List.length_set, W0, Nat.reduceEqDiff, Nat.reduceLT, ↓reduceIte, hl, e0, e4, e5]) ?_
  rintro envg36 _ ⟨rfl, hl, e4, e5⟩
  try simp only [↓WD, W0, evalOp, Nat.reduceEqDiff, Nat.reduceLT, ↓reduceIte, reduceCtorEq, hl, e4, e5]
  rw [AW_region]
  obtain ⟨i37, h38, oa39, S40⟩ := S21.allocB
  have S42 : Sep h [] h38 [.blk i10 ([y8.x0, y8.x1, y8.x2, y8.x3, y8.x4, y8.x5, y8.x6, y8.x7].map (AV.int .u32)) 88, .bld i37 (.val (.pointer none)) (.val (.slice none 0 0)) 95 5 ([] : List UInt8)] := S40
  refine AE_joinR (fun e h' => h38 = h' ∧ e.length = 47 ∧ e.getD 4 .undef = .ptr i10 0 ∧ e.getD 5 .undef = .str s35 ∧ e.getD 6 .undef = .ptr i37 0) (by
    simp only [↓WE, WA, WL, aop, ofValue, ofCell, isConst, abin, acall1, abuiltin, aun, AV.cells, AV.one, Nat.reduceAdd, Int.reduceLT, Int.reduceLE, ↓WD, W0, evalOp, Nat.reduceEqDiff, Nat.reduceLT, ↓reduceIte, reduceCtorEq, hl, e4, e5, zero_95, oa39]
    refine ⟨rfl, ?_, ?_, ?_, ?_⟩ <;> simp only [List.length_set, W0, Nat.reduceEqDiff, Nat.reduceLT, ↓reduceIte, hl, e4, e5]) ?_
  rintro envg43 _ ⟨rfl, hl, e4, e5, e6⟩
  try simp only [↓WD, W0, evalOp, Nat.reduceEqDiff, Nat.reduceLT, ↓reduceIte, reduceCtorEq, hl, e4, e5, e6]
  rw [AW_region]
  have ol44 := S42.load (P := Try.prog) 0 rfl (t := 88) (off := 0) (v := .agg [.int .u32 y8.x0, .int .u32 y8.x1, .int .u32 y8.x2, .int .u32 y8.x3, .int .u32 y8.x4, .int .u32 y8.x5, .int .u32 y8.x6, .int .u32 y8.x7]) (by simp only [apart, ag_88, sz_88, List.map_cons, List.map_nil]; rfl)
  obtain ⟨y45, qy45, hF⟩ := obind hF
  have og46 := fun (D : Drawn) (n : Nat) (g : AH) => call_hook (P := Try.prog) (D := D) k63 n (args := [.agg [.int .u32 y8.x0, .int .u32 y8.x1, .int .u32 y8.x2, .int .u32 y8.x3, .int .u32 y8.x4, .int .u32 y8.x5, .int .u32 y8.x6, .int .u32 y8.x7], .str s35]) (v := .agg [.int .u32 y45.x0, .int .u32 y45.x1, .int .u32 y45.x2, .int .u32 y45.x3, .int .u32 y45.x4, .int .u32 y45.x5, .int .u32 y45.x6, .int .u32 y45.x7]) ((kf_63_eq y8 s35).trans (by rw [qy45]; rfl)) g
  refine AE_joinR (fun e h' => h38 = h' ∧ e.length = 47 ∧ e.getD 6 .undef = .ptr i37 0 ∧ e.getD 37 .undef = .agg [.int .u32 y45.x0, .int .u32 y45.x1, .int .u32 y45.x2, .int .u32 y45.x3, .int .u32 y45.x4, .int .u32 y45.x5, .int .u32 y45.x6, .int .u32 y45.x7] ∧ e.getD 38 .undef = .int .i64 0) (by
    simp only [↓WE, WA, WL, aop, ofValue, ofCell, isConst, abin, acall1, abuiltin, aun, AV.cells, AV.one, Nat.reduceAdd, Int.reduceLT, Int.reduceLE, ↓WD, W0, evalOp, Nat.reduceEqDiff, Nat.reduceLT, ↓reduceIte, reduceCtorEq, hl, e4, e5, e6, ol44, og46]
    refine ⟨rfl, ?_, ?_, ?_, ?_⟩ <;> simp only [List.length_set, W0, Nat.reduceEqDiff, Nat.reduceLT, ↓reduceIte, hl, e4, e5, e6]) ?_
  rintro envg47 _ ⟨rfl, hl, e6, e37, e38⟩
  try simp only [↓WD, W0, evalOp, Nat.reduceEqDiff, Nat.reduceLT, ↓reduceIte, reduceCtorEq, hl, e6, e37, e38]
  obtain ⟨r92, qr92, hF⟩ := obind hF
  refine AW_lift (L_sha_Of_1 y45) (fun s e h' => ∃ (p68 : AV), ∃ (u69 : AV), e.length = 47 ∧ e.getD 6 .undef = .ptr i37 0 ∧ e.getD 37 .undef = .agg [.int .u32 y45.x0, .int .u32 y45.x1, .int .u32 y45.x2, .int .u32 y45.x3, .int .u32 y45.x4, .int .u32 y45.x5, .int .u32 y45.x6, .int .u32 y45.x7] ∧ e.getD 38 .undef = .int .i64 s.2 ∧ Sep h [] h' [.bld i37 p68 u69 95 5 s.1]) (fun r92 x e h' => ∃ (p93 : AV), ∃ (u94 : AV), x = .exit 0 ∧ e.length = 47 ∧ e.getD 6 .undef = .ptr i37 0 ∧ Sep h [] h' [.bld i37 p93 u94 95 5 r92]) qr92 (by omega) ?_ ?_ ?_
  · rintro s envr92 h70 or92 ⟨p68, u69, hl, e6, e37, e38, S71⟩ wr92
    rw [L_sha_Of_1] at wr92
    try simp only [↓WD, W0, evalOp, Nat.reduceEqDiff, Nat.reduceLT, ↓reduceIte, reduceCtorEq, hl, e6, e37, e38]
    rw [AW_region]
    refine AE_joinR (fun e h' => h70 = h' ∧ e.length = 47 ∧ e.getD 6 .undef = .ptr i37 0 ∧ e.getD 37 .undef = .agg [.int .u32 y45.x0, .int .u32 y45.x1, .int .u32 y45.x2, .int .u32 y45.x3, .int .u32 y45.x4, .int .u32 y45.x5, .int .u32 y45.x6, .int .u32 y45.x7] ∧ e.getD 38 .undef = .int .i64 s.2 ∧ e.getD 39 .undef = .bool (decide (s.2 < 8))) (by
      simp only [↓WE, WA, WL, aop, ofValue, ofCell, isConst, abin, acall1, abuiltin, aun, AV.cells, AV.one, Nat.reduceAdd, Int.reduceLT, Int.reduceLE, ↓WD, W0, evalOp, Nat.reduceEqDiff, Nat.reduceLT, ↓reduceIte, reduceCtorEq, hl, e6, e37, e38]
      refine ⟨rfl, ?_, ?_, ?_, ?_, ?_⟩ <;> simp only [List.length_set, W0, Nat.reduceEqDiff, Nat.reduceLT, ↓reduceIte, hl, e6, e37, e38]) ?_
    rintro envg72 _ ⟨rfl, hl, e6, e37, e38, e39⟩
    try simp only [↓WD, W0, evalOp, Nat.reduceEqDiff, Nat.reduceLT, ↓reduceIte, reduceCtorEq, hl, e6, e37, e38, e39]
    refine CondK_dec (fun c74 => ?_) (fun c74 => ?_)
    · rw [if_pos c74] at wr92
      try simp only [↓WD, W0, evalOp, Nat.reduceEqDiff, Nat.reduceLT, ↓reduceIte, reduceCtorEq, hl, e6, e37, e38, e39]
      rw [AW_region]
      obtain ⟨y75, qy75, wr92⟩ := obind wr92
      have oi76 : aindex Try.prog 88 (.agg [.int .u32 y45.x0, .int .u32 y45.x1, .int .u32 y45.x2, .int .u32 y45.x3, .int .u32 y45.x4, .int .u32 y45.x5, .int .u32 y45.x6, .int .u32 y45.x7]) (.int .i64 s.2) = some (.int .u32 y75) := aindex_al (k := .u32) (l := [y45.x0, y45.x1, y45.x2, y45.x3, y45.x4, y45.x5, y45.x6, y45.x7]) Try.underlying88 sz_85 ag_85 qy75
      refine AE_joinR (fun e h' => h70 = h' ∧ e.length = 47 ∧ e.getD 6 .undef = .ptr i37 0 ∧ e.getD 8 .undef = .int .u32 y75 ∧ e.getD 37 .undef = .agg [.int .u32 y45.x0, .int .u32 y45.x1, .int .u32 y45.x2, .int .u32 y45.x3, .int .u32 y45.x4, .int .u32 y45.x5, .int .u32 y45.x6, .int .u32 y45.x7] ∧ e.getD 38 .undef = .int .i64 s.2) (by
        simp only [↓WE, WA, WL, aop, ofValue, ofCell, isConst, abin, acall1, abuiltin, aun, AV.cells, AV.one, Nat.reduceAdd, Int.reduceLT, Int.reduceLE, ↓WD, W0, evalOp, Nat.reduceEqDiff, Nat.reduceLT, ↓reduceIte, reduceCtorEq, hl, e6, e37, e38, e39, oi76]
        refine ⟨rfl, ?_, ?_, ?_, ?_, ?_⟩ <;> simp only [List.length_set, W0, Nat.reduceEqDiff, Nat.reduceLT, ↓reduceIte, hl, e6, e37, e38, e39]) ?_
      rintro envg77 _ ⟨rfl, hl, e6, e8, e37, e38⟩
      try simp only [↓WD, W0, evalOp, Nat.reduceEqDiff, Nat.reduceLT, ↓reduceIte, reduceCtorEq, hl, e6, e8, e37, e38]
      rw [AW_region]
      have oc78 := fun g : AH => aconv_int (P := Try.prog) (h := g) (n := y75) (k' := .u32) Try.underlying85 Try.underlying24
      obtain ⟨y79, qy79, wr92⟩ := obind wr92
      have og80 := fun (D : Drawn) (n : Nat) (g : AH) => call_hook (P := Try.prog) (D := D) k65 n (args := [.int .u64 (IntKind.u64.wrap y75), .int .i64 4]) (v := .str y79) ((kf_65_eq (IntKind.u64.wrap y75) 4).trans (by rw [qy79]; rfl)) g
      obtain ⟨b81, qb81, wr92⟩ := obind wr92
      obtain ⟨p82, u83, h84, ow85, S86⟩ := S71.bwrite (T := tabOf K) k128 n106 n66 0 rfl qb81 m (by omega)
      have S87 : Sep h [] h84 [.bld i37 p82 u83 95 5 b81] := S86
      refine AE_joinR (fun e h' => h84 = h' ∧ e.length = 47 ∧ e.getD 6 .undef = .ptr i37 0 ∧ e.getD 37 .undef = .agg [.int .u32 y45.x0, .int .u32 y45.x1, .int .u32 y45.x2, .int .u32 y45.x3, .int .u32 y45.x4, .int .u32 y45.x5, .int .u32 y45.x6, .int .u32 y45.x7] ∧ e.getD 38 .undef = .int .i64 s.2) (by
        simp only [↓WE, WA, WL, aop, ofValue, ofCell, isConst, abin, acall1, abuiltin, aun, AV.cells, AV.one, Nat.reduceAdd, Int.reduceLT, Int.reduceLE, ↓WD, W0, evalOp, Nat.reduceEqDiff, Nat.reduceLT, ↓reduceIte, reduceCtorEq, hl, e6, e8, e37, e38, oc78, og80, ow85]
        refine ⟨rfl, ?_, ?_, ?_, ?_⟩ <;> simp only [List.length_set, W0, Nat.reduceEqDiff, Nat.reduceLT, ↓reduceIte, hl, e6, e8, e37, e38]) ?_
      rintro envg88 _ ⟨rfl, hl, e6, e37, e38⟩
      try simp only [↓WD, W0, evalOp, Nat.reduceEqDiff, Nat.reduceLT, ↓reduceIte, reduceCtorEq, hl, e6, e37, e38]
      rw [AW_region]
      refine AE_joinR (fun e h' => h84 = h' ∧ e.length = 47 ∧ e.getD 6 .undef = .ptr i37 0 ∧ e.getD 37 .undef = .agg [.int .u32 y45.x0, .int .u32 y45.x1, .int .u32 y45.x2, .int .u32 y45.x3, .int .u32 y45.x4, .int .u32 y45.x5, .int .u32 y45.x6, .int .u32 y45.x7] ∧ e.getD 38 .undef = .int .i64 (IntKind.i64.wrap (s.2 + 1))) (by
        simp only [↓WE, WA, WL, aop, ofValue, ofCell, isConst, abin, acall1, abuiltin, aun, AV.cells, AV.one, Nat.reduceAdd, Int.reduceLT, Int.reduceLE, ↓WD, W0, evalOp, Nat.reduceEqDiff, Nat.reduceLT, ↓reduceIte, reduceCtorEq, hl, e6, e37, e38]
        refine ⟨rfl, ?_, ?_, ?_, ?_⟩ <;> simp only [List.length_set, W0, Nat.reduceEqDiff, Nat.reduceLT, ↓reduceIte, hl, e6, e37, e38]) ?_
      rintro envg89 _ ⟨rfl, hl, e6, e37, e38⟩
      try simp only [↓WD, W0, evalOp, Nat.reduceEqDiff, Nat.reduceLT, ↓reduceIte, reduceCtorEq, hl, e6, e37, e38]
      obtain rfl := Option.some.inj wr92
      rw [KP_nil, QL_normal]
      refine ⟨_, rfl, p82, u83, ?_, ?_, ?_, ?_, S87⟩ <;> simp only [List.length_set, W0, Nat.reduceEqDiff, Nat.reduceLT, ↓reduceIte, hl, e6, e37, e38]
    · rw [if_neg c74] at wr92
      try simp only [↓WD, W0, evalOp, Nat.reduceEqDiff, Nat.reduceLT, ↓reduceIte, reduceCtorEq, hl, e6, e37, e38, e39]
      obtain rfl := Option.some.inj wr92
      rw [KP_nil, QL_exit]
      refine ⟨_, rfl, p68, u69, rfl, ?_, ?_, S71⟩ <;> simp only [List.length_set, W0, Nat.reduceEqDiff, Nat.reduceLT, ↓reduceIte, hl, e6, e37, e38, e39]
  · refine ⟨.val (.pointer none), .val (.slice none 0 0), ?_, ?_, ?_, ?_, S42.pick [1] (by decide) rfl⟩ <;> simp only [List.length_set, W0, Nat.reduceEqDiff, Nat.reduceLT, ↓reduceIte, hl, e6, e37, e38]
  · rintro x envr92 h95 ⟨p93, u94, rfl, hl, e6, S96⟩
    try simp only [↓WD, W0, evalOp, Nat.reduceEqDiff, Nat.reduceLT, ↓reduceIte, reduceCtorEq, hl, e6]
    rw [AW_region]
    obtain ⟨_, q100, hF⟩ := obind hF
    obtain ⟨h97, ow98, S99⟩ := S96.bstring (T := tabOf K) n67 0 rfl (chkCap_le q100) m (by omega)
    have S101 : Sep h [] h97 [] := S99
    refine AE_joinR (fun e h' => h97 = h' ∧ e.length = 47 ∧ e.getD 2 .undef = .str r92) (by
      simp only [↓WE, WA, WL, aop, ofValue, ofCell, isConst, abin, acall1, abuiltin, aun, AV.cells, AV.one, Nat.reduceAdd, Int.reduceLT, Int.reduceLE, ↓WD, W0, evalOp, Nat.reduceEqDiff, Nat.reduceLT, ↓reduceIte, reduceCtorEq, hl, e6, ow98]
      refine ⟨rfl, ?_, ?_⟩ <;> simp only [List.length_set, W0, Nat.reduceEqDiff, Nat.reduceLT, ↓reduceIte, hl, e6]) ?_
    rintro envg102 _ ⟨rfl, hl, e2⟩
    try simp only [↓WD, W0, evalOp, Nat.reduceEqDiff, Nat.reduceLT, ↓reduceIte, reduceCtorEq, hl, e2]
    refine KP_ret (vs := [.str r92]) (by simp only [aresults, aresult, gs, List.length_set, Nat.reduceEqDiff, Nat.reduceLT, ↓reduceIte, hl, e2]) ?_
    obtain rfl := Option.some.inj hF
    exact rfl
theorem W_digest_Find {K : PureK} (k16 : K 16 = some kf_16) (n56 : K 56 = none) (m : Nat) (hm : NF + 1 ≤ m) (h : AH) (ut : AV) (t : List Gapi_Node) (hut : RO 5 ut h (t.map Gapi_Node.cells)) (key : List UInt8) {r : (List (List UInt8))} (hF : F_digest_Find t key = some r) :
    AR (acall Try.prog (hooksOf K) (drawnOf Try.prog (tabOf K)) m 56 [ut, .str key] h) (fun v h' => ∃ w0 : AV, v = w0 ∧ Sep h [] h' [.row w0 9 1 (r.map cellS)]) := by
  obtain ⟨m, rfl⟩ : ∃ k, m = k + 1 := ⟨m - 1, by omega⟩
  refine AR_call (hooksOf_none n56) Try.func56 rfl _ _ fun env hl he => ?_
  have e0 := he 0
  have e1 := he 1
  simp only [List.getD_cons_zero, List.getD_cons_succ] at e0 e1
  simp only [Try.f56] at hl ⊢
  simp only [List.length_cons, List.length_nil, Nat.reduceAdd, Nat.reduceSub] at hl
  clear he
  have S0 : Sep h [] h [] := Sep.nil h
  rw [F_digest_Find] at hF
  try simp only [↓WD, W0, evalOp, Nat.reduceEqDiff, Nat.reduceLT, ↓reduceIte, reduceCtorEq, hl, e0, e1]
  rw [AW_region]
  refine AE_joinR (fun e h' => h = h' ∧ e.length = 31 ∧ e.getD 0 .undef = ut ∧ e.getD 1 .undef = .str key) (by
    simp only [↓WE, WA, WL, aop, ofValue, ofCell, isConst, abin, acall1, abuiltin, aun, AV.cells, AV.one, Nat.reduceAdd, Int.reduceLT, Int.reduceLE, ↓WD, W0, evalOp, Nat.reduceEqDiff, Nat.reduceLT, ↓reduceIte, reduceCtorEq, hl, e0, e1]
    refine ⟨rfl, ?_, ?_, ?_⟩ <;> simp only [List.length_set, W0, Nat.reduceEqDiff, Nat.reduceLT, ↓reduceIte, hl, e0, e1]) ?_
  rintro envg1 _ ⟨rfl, hl, e0, e1⟩
  try simp only [↓WD, W0, evalOp, Nat.reduceEqDiff, Nat.reduceLT, ↓reduceIte, reduceCtorEq, hl, e0, e1]
  rw [AW_region]
  refine AE_joinR (fun e h' => h = h' ∧ e.length = 31 ∧ e.getD 0 .undef = ut ∧ e.getD 1 .undef = .str key ∧ e.getD 5 .undef = .val (.slice none 0 0)) (by
    simp only [↓WE, WA, WL, aop, ofValue, ofCell, isConst, abin, acall1, abuiltin, aun, AV.cells, AV.one, Nat.reduceAdd, Int.reduceLT, Int.reduceLE, ↓WD, W0, evalOp, Nat.reduceEqDiff, Nat.reduceLT, ↓reduceIte, reduceCtorEq, hl, e0, e1]
    refine ⟨rfl, ?_, ?_, ?_, ?_⟩ <;> simp only [List.length_set, W0, Nat.reduceEqDiff, Nat.reduceLT, ↓reduceIte, hl, e0, e1]) ?_
  rintro envg2 _ ⟨rfl, hl, e0, e1, e5⟩
  try simp only [↓WD, W0, evalOp, Nat.reduceEqDiff, Nat.reduceLT, ↓reduceIte, reduceCtorEq, hl, e0, e1, e5]
  rw [AW_region]
  have ol3 := RO.len (P := Try.prog) sl_67 (S0.ro hut)
  rw [List.length_map] at ol3
  refine AE_joinR (fun e h' => h = h' ∧ e.length = 31 ∧ e.getD 1 .undef = .str key ∧ e.getD 5 .undef = .val (.slice none 0 0) ∧ e.getD 8 .undef = ut ∧ e.getD 9 .undef = .int .i64 (t.length : Int) ∧ e.getD 10 .undef = .int .i64 0) (by
    simp only [↓WE, WA, WL, aop, ofValue, ofCell, isConst, abin, acall1, abuiltin, aun, AV.cells, AV.one, Nat.reduceAdd, Int.reduceLT, Int.reduceLE, ↓WD, W0, evalOp, Nat.reduceEqDiff, Nat.reduceLT, ↓reduceIte, reduceCtorEq, hl, e0, e1, e5, ol3]
    refine ⟨rfl, ?_, ?_, ?_, ?_, ?_, ?_⟩ <;> simp only [List.length_set, W0, Nat.reduceEqDiff, Nat.reduceLT, ↓reduceIte, hl, e0, e1, e5]) ?_
  rintro envg4 _ ⟨rfl, hl, e1, e5, e8, e9, e10⟩
  try simp only [↓WD, W0, evalOp, Nat.reduceEqDiff, Nat.reduceLT, ↓reduceIte, reduceCtorEq, hl, e1, e5, e8, e9, e10]
  have S74 : Sep h [] h [.row (.val (.slice none 0 0)) 9 1 (([] : List (List UInt8)).map cellS)] := S0.nilrow 9 1
  obtain ⟨r147, qr147, hF⟩ := obind hF
  refine AW_lift (L_digest_Find_1 t key) (fun s e h' => ∃ (u80 : AV), e.length = 31 ∧ e.getD 1 .undef = .str key ∧ e.getD 5 .undef = u80 ∧ e.getD 8 .undef = ut ∧ e.getD 9 .undef = .int .i64 (t.length : Int) ∧ e.getD 10 .undef = .int .i64 s.2 ∧ Sep h [] h' [.row u80 9 1 (s.1.map cellS)]) (fun r147 x e h' => ∃ (u148 : AV), x = .exit 0 ∧ e.length = 31 ∧ e.getD 5 .undef = u148 ∧ Sep h [] h' [.row u148 9 1 (r147.map cellS)]) qr147 (by omega) ?_ ?_ ?_
  · rintro s envr147 h81 or147 ⟨u80, hl, e1, e5, e8, e9, e10, S82⟩ wr147
    rw [L_digest_Find_1] at wr147
    try simp only [↓WD, W0, evalOp, Nat.reduceEqDiff, Nat.reduceLT, ↓reduceIte, reduceCtorEq, hl, e1, e5, e8, e9, e10]
    rw [AW_region]
    refine AE_joinR (fun e h' => h81 = h' ∧ e.length = 31 ∧ e.getD 1 .undef = .str key ∧ e.getD 5 .undef = u80 ∧ e.getD 8 .undef = ut ∧ e.getD 9 .undef = .int .i64 (t.length : Int) ∧ e.getD 10 .undef = .int .i64 s.2 ∧ e.getD 11 .undef = .bool (decide (s.2 < (t.length : Int)))) (by
      simp only [↓WE, WA, WL, aop, ofValue, ofCell, isConst, abin, acall1, abuiltin, aun, AV.cells, AV.one, Nat.reduceAdd, Int.reduceLT, Int.reduceLE, ↓WD, W0, evalOp, Nat.reduceEqDiff, Nat.reduceLT, ↓reduceIte, reduceCtorEq, hl, e1, e5, e8, e9, e10]
      refine ⟨rfl, ?_, ?_, ?_, ?_, ?_, ?_, ?_⟩ <;> simp only [List.length_set, W0, Nat.reduceEqDiff, Nat.reduceLT, ↓reduceIte, hl, e1, e5, e8, e9, e10]) ?_
    rintro envg83 _ ⟨rfl, hl, e1, e5, e8, e9, e10, e11⟩
    try simp only [↓WD, W0, evalOp, Nat.reduceEqDiff, Nat.reduceLT, ↓reduceIte, reduceCtorEq, hl, e1, e5, e8, e9, e10, e11]
    refine CondK_dec (fun c85 => ?_) (fun c85 => ?_)
    · rw [if_pos c85] at wr147
      try simp only [↓WD, W0, evalOp, Nat.reduceEqDiff, Nat.reduceLT, ↓reduceIte, reduceCtorEq, hl, e1, e5, e8, e9, e10, e11]
      rw [AW_region]
      obtain ⟨x86, qx86, wr147⟩ := obind wr147
      obtain ⟨i87, off88, oi89, hp90⟩ := RO.addr (P := Try.prog) sl_67 (S82.ro hut) qx86
      have ol91 := RO.ld (P := Try.prog) (S82.ro hut) hp90 qx86 (t := 75) (o := 0) (v := .agg [.str x86.xPath, .bool x86.xDir, .str x86.xData, .int .i64 x86.xMode, .int .i64 x86.xTime]) (by omega) (by simp only [apart, ag_75, sz_75]; rfl)
      simp only [Nat.add_zero] at ol91
      obtain ⟨i92, h93, oa94, S95⟩ := S82.alloc 75 [.str [], .bool false, .str [], .int .i64 0, .int .i64 0]
      have S97 : Sep h [] h93 [.row u80 9 1 (s.1.map cellS), .blk i92 [.str [], .bool false, .str [], .int .i64 0, .int .i64 0] 75] := S95
      obtain ⟨h98, os99, S100⟩ := S97.store (P := Try.prog) 1 rfl (t := 75) (off := 0) (v := .agg [.str x86.xPath, .bool x86.xDir, .str x86.xData, .int .i64 x86.xMode, .int .i64 x86.xTime]) (c' := [.str x86.xPath, .bool x86.xDir, .str x86.xData, .int .i64 x86.xMode, .int .i64 x86.xTime]) rfl sz_75 rfl (by simp) rfl
      have S101 : Sep h [] h98 [.row u80 9 1 (s.1.map cellS), .blk i92 [.str x86.xPath, .bool x86.xDir, .str x86.xData, .int .i64 x86.xMode, .int .i64 x86.xTime] 75] := S100
      refine AE_joinR (fun e h' => h98 = h' ∧ e.length = 31 ∧ e.getD 1 .undef = .str key ∧ e.getD 5 .undef = u80 ∧ e.getD 7 .undef = .ptr i92 0 ∧ e.getD 8 .undef = ut ∧ e.getD 9 .undef = .int .i64 (t.length : Int) ∧ e.getD 10 .undef = .int .i64 s.2) (by
        simp only [↓WE, WA, WL, aop, ofValue, ofCell, isConst, abin, acall1, abuiltin, aun, AV.cells, AV.one, Nat.reduceAdd, Int.reduceLT, Int.reduceLE, ↓WD, W0, evalOp, Nat.reduceEqDiff, Nat.reduceLT, ↓reduceIte, reduceCtorEq, hl, e1, e5, e8, e9, e10, e11, oi89, ol91, zero_75, oa94, os99]
        refine ⟨rfl, ?_, ?_, ?_, ?_, ?_, ?_, ?_⟩ <;> simp only [List.length_set, W0, Nat.reduceEqDiff, Nat.reduceLT, ↓reduceIte, hl, e1, e5, e8, e9, e10, e11]) ?_
      rintro envg102 _ ⟨rfl, hl, e1, e5, e7, e8, e9, e10⟩
      try simp only [↓WD, W0, evalOp, Nat.reduceEqDiff, Nat.reduceLT, ↓reduceIte, reduceCtorEq, hl, e1, e5, e7, e8, e9, e10]
      rw [AW_region]
      obtain ⟨j110, qj110, wr147⟩ := obind wr147
      refine AE_joinR (fun e h' => e.length = 31 ∧ e.getD 1 .undef = .str key ∧ e.getD 5 .undef = u80 ∧ e.getD 7 .undef = .ptr i92 0 ∧ e.getD 8 .undef = ut ∧ e.getD 9 .undef = .int .i64 (t.length : Int) ∧ e.getD 10 .undef = .int .i64 s.2 ∧ e.getD 23 .undef = .bool j110 ∧ Sep h [] h' [.row u80 9 1 (s.1.map cellS), .blk i92 [.str x86.xPath, .bool x86.xDir, .str x86.xData, .int .i64 x86.xMode, .int .i64 x86.xTime] 75]) ?_ ?_
      · have ol103 := S101.load (P := Try.prog) 1 rfl (t := 4) (off := 1) (v := .bool x86.xDir) (by simp only [apart, ag_4, sz_4]; rfl)
        simp only [↓WE, WA, WL, aop, ofValue, ofCell, isConst, abin, acall1, abuiltin, aun, AV.cells, AV.one, Nat.reduceAdd, Int.reduceLT, Int.reduceLE, ↓WD, W0, evalOp, Nat.reduceEqDiff, Nat.reduceLT, ↓reduceIte, reduceCtorEq, hl, e1, e5, e7, e8, e9, e10, fa_75_1, ol103]
        refine GuardW_boo (fun c104 => ?_) (fun c104 => ?_)
        · rw [if_pos c104] at qj110
          have d105 := c104
          have ol107 := S101.load (P := Try.prog) 1 rfl (t := 9) (off := 2) (v := .str x86.xData) (by simp only [apart, ag_9, sz_9]; rfl)
          obtain ⟨y108, qy108, qj110⟩ := obind qj110
          have og109 := fun (D : Drawn) (n : Nat) (g : AH) => call_hook (P := Try.prog) (D := D) k16 n (args := [.str x86.xData]) (v := .str y108) ((kf_16_eq x86.xData).trans (by rw [qy108]; rfl)) g
          simp only [↓WE, WA, WL, aop, ofValue, ofCell, isConst, abin, acall1, abuiltin, aun, AV.cells, AV.one, Nat.reduceAdd, Int.reduceLT, Int.reduceLE, ↓WD, W0, evalOp, Nat.reduceEqDiff, Nat.reduceLT, ↓reduceIte, reduceCtorEq, hl, e1, e5, e7, e8, e9, e10, fa_75_1, ol103, fa_75_2, ol107, og109, d105]
          obtain rfl := Option.some.inj qj110
          refine ⟨?_, ?_, ?_, ?_, ?_, ?_, ?_, ?_, S101⟩ <;> simp only [List.length_set, W0, Nat.reduceEqDiff, Nat.reduceLT, ↓reduceIte, hl, e1, e5, e7, e8, e9, e10]
        · rw [if_neg (nf c104)] at qj110
          have d106 := c104
          simp only [↓WE, WA, WL, aop, ofValue, ofCell, isConst, abin, acall1, abuiltin, aun, AV.cells, AV.one, Nat.reduceAdd, Int.reduceLT, Int.reduceLE, ↓WD, W0, evalOp, Nat.reduceEqDiff, Nat.reduceLT, ↓reduceIte, reduceCtorEq, hl, e1, e5, e7, e8, e9, e10, fa_75_1, ol103, d106]
          obtain rfl := Option.some.inj qj110
          refine ⟨?_, ?_, ?_, ?_, ?_, ?_, ?_, ?_, S101⟩ <;> simp only [List.length_set, W0, Nat.reduceEqDiff, Nat.reduceLT, ↓reduceIte, hl, e1, e5, e7, e8, e9, e10]
      · rintro envj110 h112 ⟨hl, e1, e5, e7, e8, e9, e10, e23, S111⟩
        try simp only [↓WD, W0, evalOp, Nat.reduceEqDiff, Nat.reduceLT, ↓reduceIte, reduceCtorEq, hl, e1, e5, e7, e8, e9, e10, e23]
        refine CondK_boo (fun c128 => ?_) (fun c128 => ?_)
        · rw [if_pos c128] at wr147
          try simp only [↓WD, W0, evalOp, Nat.reduceEqDiff, Nat.reduceLT, ↓reduceIte, reduceCtorEq, hl, e1, e5, e7, e8, e9, e10, e23]
          rw [AW_region]
          have ol129 := S111.load (P := Try.prog) 1 rfl (t := 9) (off := 0) (v := .str x86.xPath) (by simp only [apart, ag_9, sz_9]; rfl)
          obtain ⟨u130, h131, ob132, S133⟩ := Sep.build (P := Try.prog) sl_51 S111 [.str x86.xPath] (([x86.xPath] : List (List UInt8)).map cellS) rfl (by simp [cellS]) (by simp)
          have ob132 : abuildSlice Try.prog 51 1 [(0, .str x86.xPath)] h112 = some (u130, h131) := ob132
          have S135 : Sep h [] h131 [.row u80 9 1 (s.1.map cellS), .blk i92 [.str x86.xPath, .bool x86.xDir, .str x86.xData, .int .i64 x86.xMode, .int .i64 x86.xTime] 75, .row u130 9 1 (([x86.xPath] : List (List UInt8)).map cellS)] := S133
          obtain ⟨zs136, qzs136, wr147⟩ := obind wr147
          obtain ⟨u137, h138, op139, S140⟩ := Sep.append (P := Try.prog) (t' := 51) sl_51 (by rw [Try.underlying51]; rfl) S135 0 rfl (S135.row_ro (i := 2) rfl) (fun _ => rfl) qzs136
          have S141 : Sep h [] h138 [.row u137 9 1 (zs136.map cellS), .blk i92 [.str x86.xPath, .bool x86.xDir, .str x86.xData, .int .i64 x86.xMode, .int .i64 x86.xTime] 75, .row u130 9 1 (([x86.xPath] : List (List UInt8)).map cellS)] := S140
          refine AE_joinR (fun e h' => h138 = h' ∧ e.length = 31 ∧ e.getD 1 .undef = .str key ∧ e.getD 5 .undef = u137 ∧ e.getD 8 .undef = ut ∧ e.getD 9 .undef = .int .i64 (t.length : Int) ∧ e.getD 10 .undef = .int .i64 s.2) (by
            simp only [↓WE, WA, WL, aop, ofValue, ofCell, isConst, abin, acall1, abuiltin, aun, AV.cells, AV.one, Nat.reduceAdd, Int.reduceLT, Int.reduceLE, ↓WD, W0, evalOp, Nat.reduceEqDiff, Nat.reduceLT, ↓reduceIte, reduceCtorEq, hl, e1, e5, e7, e8, e9, e10, e23, fa_75_0, ol129, ob132, op139]
            refine ⟨rfl, ?_, ?_, ?_, ?_, ?_, ?_⟩ <;> simp only [List.length_set, W0, Nat.reduceEqDiff, Nat.reduceLT, ↓reduceIte, hl, e1, e5, e7, e8, e9, e10, e23]) ?_
          rintro envg142 _ ⟨rfl, hl, e1, e5, e8, e9, e10⟩
          try simp only [↓WD, W0, evalOp, Nat.reduceEqDiff, Nat.reduceLT, ↓reduceIte, reduceCtorEq, hl, e1, e5, e8, e9, e10]
          rw [AW_region]
          refine AE_joinR (fun e h' => h138 = h' ∧ e.length = 31 ∧ e.getD 1 .undef = .str key ∧ e.getD 5 .undef = u137 ∧ e.getD 8 .undef = ut ∧ e.getD 9 .undef = .int .i64 (t.length : Int) ∧ e.getD 10 .undef = .int .i64 (IntKind.i64.wrap (s.2 + 1))) (by
            simp only [↓WE, WA, WL, aop, ofValue, ofCell, isConst, abin, acall1, abuiltin, aun, AV.cells, AV.one, Nat.reduceAdd, Int.reduceLT, Int.reduceLE, ↓WD, W0, evalOp, Nat.reduceEqDiff, Nat.reduceLT, ↓reduceIte, reduceCtorEq, hl, e1, e5, e8, e9, e10]
            refine ⟨rfl, ?_, ?_, ?_, ?_, ?_, ?_⟩ <;> simp only [List.length_set, W0, Nat.reduceEqDiff, Nat.reduceLT, ↓reduceIte, hl, e1, e5, e8, e9, e10]) ?_
          rintro envg143 _ ⟨rfl, hl, e1, e5, e8, e9, e10⟩
          try simp only [↓WD, W0, evalOp, Nat.reduceEqDiff, Nat.reduceLT, ↓reduceIte, reduceCtorEq, hl, e1, e5, e8, e9, e10]
          obtain rfl := Option.some.inj wr147
          rw [KP_nil, QL_normal]
          refine ⟨_, rfl, u137, ?_, ?_, ?_, ?_, ?_, ?_, S141.pick [0] (by decide) rfl⟩ <;> simp only [List.length_set, W0, Nat.reduceEqDiff, Nat.reduceLT, ↓reduceIte, hl, e1, e5, e8, e9, e10]
        · rw [if_neg (nf c128)] at wr147
          try simp only [↓WD, W0, evalOp, Nat.reduceEqDiff, Nat.reduceLT, ↓reduceIte, reduceCtorEq, hl, e1, e5, e7, e8, e9, e10, e23]
          rw [AW_region]
          refine AE_joinR (fun e h' => h112 = h' ∧ e.length = 31 ∧ e.getD 1 .undef = .str key ∧ e.getD 5 .undef = u80 ∧ e.getD 8 .undef = ut ∧ e.getD 9 .undef = .int .i64 (t.length : Int) ∧ e.getD 10 .undef = .int .i64 (IntKind.i64.wrap (s.2 + 1))) (by
            simp only [↓WE, WA, WL, aop, ofValue, ofCell, isConst, abin, acall1, abuiltin, aun, AV.cells, AV.one, Nat.reduceAdd, Int.reduceLT, Int.reduceLE, ↓WD, W0, evalOp, Nat.reduceEqDiff, Nat.reduceLT, ↓reduceIte, reduceCtorEq, hl, e1, e5, e7, e8, e9, e10, e23]
            refine ⟨rfl, ?_, ?_, ?_, ?_, ?_, ?_⟩ <;> simp only [List.length_set, W0, Nat.reduceEqDiff, Nat.reduceLT, ↓reduceIte, hl, e1, e5, e7, e8, e9, e10, e23]) ?_
          rintro envg144 _ ⟨rfl, hl, e1, e5, e8, e9, e10⟩
          try simp only [↓WD, W0, evalOp, Nat.reduceEqDiff, Nat.reduceLT, ↓reduceIte, reduceCtorEq, hl, e1, e5, e8, e9, e10]
          obtain rfl := Option.some.inj wr147
          rw [KP_nil, QL_normal]
          refine ⟨_, rfl, u80, ?_, ?_, ?_, ?_, ?_, ?_, S111.pick [0] (by decide) rfl⟩ <;> simp only [List.length_set, W0, Nat.reduceEqDiff, Nat.reduceLT, ↓reduceIte, hl, e1, e5, e8, e9, e10]
    · rw [if_neg c85] at wr147
      try simp only [↓WD, W0, evalOp, Nat.reduceEqDiff, Nat.reduceLT, ↓reduceIte, reduceCtorEq, hl, e1, e5, e8, e9, e10, e11]
      obtain rfl := Option.some.inj wr147
      rw [KP_nil, QL_exit]
      refine ⟨_, rfl, u80, rfl, ?_, ?_, S82⟩ <;> simp only [List.length_set, W0, Nat.reduceEqDiff, Nat.reduceLT, ↓reduceIte, hl, e1, e5, e8, e9, e10, e11]
  · refine ⟨.val (.slice none 0 0), ?_, ?_, ?_, ?_, ?_, ?_, S74⟩ <;> simp only [List.length_set, W0, Nat.reduceEqDiff, Nat.reduceLT, ↓reduceIte, hl, e1, e5, e8, e9, e10]
  · rintro x envr147 h149 ⟨u148, rfl, hl, e5, S150⟩
    try simp only [↓WD, W0, evalOp, Nat.reduceEqDiff, Nat.reduceLT, ↓reduceIte, reduceCtorEq, hl, e5]
    rw [AW_region]
    refine AE_joinR (fun e h' => h149 = h' ∧ e.length = 31 ∧ e.getD 4 .undef = u148) (by
      simp only [↓WE, WA, WL, aop, ofValue, ofCell, isConst, abin, acall1, abuiltin, aun, AV.cells, AV.one, Nat.reduceAdd, Int.reduceLT, Int.reduceLE, ↓WD, W0, evalOp, Nat.reduceEqDiff, Nat.reduceLT, ↓reduceIte, reduceCtorEq, hl, e5]
      refine ⟨rfl, ?_, ?_⟩ <;> simp only [List.length_set, W0, Nat.reduceEqDiff, Nat.reduceLT, ↓reduceIte, hl, e5]) ?_
    rintro envg151 _ ⟨rfl, hl, e4⟩
    try simp only [↓WD, W0, evalOp, Nat.reduceEqDiff, Nat.reduceLT, ↓reduceIte, reduceCtorEq, hl, e4]
    refine KP_ret (vs := [u148]) (by simp only [aresults, aresult, gs, List.length_set, Nat.reduceEqDiff, Nat.reduceLT, ↓reduceIte, hl, e4]) ?_
    obtain rfl := Option.some.inj hF
    exact ⟨u148, rfl, S150⟩
theorem W_field_put {K : PureK} (n117 : K 117 = none) (m : Nat) (hm : NF + 1 ≤ m) (h : AH) (v : Int) (n_ : Int) {r : (List UInt8)} (hF : F_field_put v n_ = some r) :
    AR (acall Try.prog (hooksOf K) (drawnOf Try.prog (tabOf K)) m 117 [.int .u64 v, .int .i64 n_] h) (fun v h' => v = .str r) := by
  obtain ⟨m, rfl⟩ : ∃ k, m = k + 1 := ⟨m - 1, by omega⟩
  refine AR_call (hooksOf_none n117) Try.func117 rfl _ _ fun env hl he => ?_
  have e0 := he 0
  have e1 := he 1
  simp only [List.getD_cons_zero, List.getD_cons_succ] at e0 e1
  simp only [Try.f117] at hl ⊢
  simp only [List.length_cons, List.length_nil, Nat.reduceAdd, Nat.reduceSub] at hl
  clear he
  have S0 : Sep h [] h [] := Sep.nil h
  rw [F_field_put] at hF
  try simp only [↓WD, W0, evalOp, Nat.reduceEqDiff, Nat.reduceLT, ↓reduceIte, reduceCtorEq, hl, e0, e1]
  rw [AW_region]
  refine AE_joinR (fun e h' => h = h' ∧ e.length = 25 ∧ e.getD 0 .undef = .int .u64 v ∧ e.getD 1 .undef = .int .i64 n_) (by
    simp only [↓WE, WA, WL, aop, ofValue, ofCell, isConst, abin, acall1, abuiltin, aun, AV.cells, AV.one, Nat.reduceAdd, Int.reduceLT, Int.reduceLE, ↓WD, W0, evalOp, Nat.reduceEqDiff, Nat.reduceLT, ↓reduceIte, reduceCtorEq, hl, e0, e1]
    refine ⟨rfl, ?_, ?_, ?_⟩ <;> simp only [List.length_set, W0, Nat.reduceEqDiff, Nat.reduceLT, ↓reduceIte, hl, e0, e1]) ?_
  rintro envg1 _ ⟨rfl, hl, e0, e1⟩
  try simp only [↓WD, W0, evalOp, Nat.reduceEqDiff, Nat.reduceLT, ↓reduceIte, reduceCtorEq, hl, e0, e1]
  rw [AW_region]
  obtain ⟨zs2, qzs2, hF⟩ := obind hF
  obtain ⟨u3, h4, om5, S6⟩ := Sep.make (P := Try.prog) sl_28 (f := (cellI .u8)) (by rw [zero_5]; rfl) S0 qzs2 .i64 .i64
  have S8 : Sep h [] h4 [.row u3 5 1 (zs2.map (cellI .u8))] := S6
  refine AE_joinR (fun e h' => h4 = h' ∧ e.length = 25 ∧ e.getD 0 .undef = .int .u64 v ∧ e.getD 5 .undef = u3) (by
    simp only [↓WE, WA, WL, aop, ofValue, ofCell, isConst, abin, acall1, abuiltin, aun, AV.cells, AV.one, Nat.reduceAdd, Int.reduceLT, Int.reduceLE, ↓WD, W0, evalOp, Nat.reduceEqDiff, Nat.reduceLT, ↓reduceIte, reduceCtorEq, hl, e0, e1, om5]
    refine ⟨rfl, ?_, ?_, ?_⟩ <;> simp only [List.length_set, W0, Nat.reduceEqDiff, Nat.reduceLT, ↓reduceIte, hl, e0, e1]) ?_
  rintro envg9 _ ⟨rfl, hl, e0, e5⟩
  try simp only [↓WD, W0, evalOp, Nat.reduceEqDiff, Nat.reduceLT, ↓reduceIte, reduceCtorEq, hl, e0, e5]
  rw [AW_region]
  have ol10 := RO.len (P := Try.prog) sl_28 (S8.row_ro (i := 0) rfl)
  rw [List.length_map] at ol10
  refine AE_joinR (fun e h' => h4 = h' ∧ e.length = 25 ∧ e.getD 0 .undef = .int .u64 v ∧ e.getD 5 .undef = u3 ∧ e.getD 10 .undef = .int .i64 (zs2.length : Int) ∧ e.getD 11 .undef = .int .i64 0) (by
    simp only [↓WE, WA, WL, aop, ofValue, ofCell, isConst, abin, acall1, abuiltin, aun, AV.cells, AV.one, Nat.reduceAdd, Int.reduceLT, Int.reduceLE, ↓WD, W0, evalOp, Nat.reduceEqDiff, Nat.reduceLT, ↓reduceIte, reduceCtorEq, hl, e0, e5, ol10]
    refine ⟨rfl, ?_, ?_, ?_, ?_, ?_⟩ <;> simp only [List.length_set, W0, Nat.reduceEqDiff, Nat.reduceLT, ↓reduceIte, hl, e0, e5]) ?_
  rintro envg11 _ ⟨rfl, hl, e0, e5, e10, e11⟩
  try simp only [↓WD, W0, evalOp, Nat.reduceEqDiff, Nat.reduceLT, ↓reduceIte, reduceCtorEq, hl, e0, e5, e10, e11]
  obtain ⟨r52, qr52, hF⟩ := obind hF
  refine AW_lift (L_field_put_1 zs2 v) (fun s e h' => e.length = 25 ∧ e.getD 0 .undef = .int .u64 v ∧ e.getD 5 .undef = u3 ∧ e.getD 10 .undef = .int .i64 (zs2.length : Int) ∧ e.getD 11 .undef = .int .i64 s.2 ∧ Sep h [] h' [.row u3 5 1 (s.1.map (cellI .u8))]) (fun r52 x e h' => x = .exit 0 ∧ e.length = 25 ∧ e.getD 5 .undef = u3 ∧ Sep h [] h' [.row u3 5 1 (r52.map (cellI .u8))]) qr52 (by omega) ?_ ?_ ?_
  · rintro s envr52 h32 or52 ⟨hl, e0, e5, e10, e11, S33⟩ wr52
    rw [L_field_put_1] at wr52
    try simp only [↓WD, W0, evalOp, Nat.reduceEqDiff, Nat.reduceLT, ↓reduceIte, reduceCtorEq, hl, e0, e5, e10, e11]
    rw [AW_region]
    refine AE_joinR (fun e h' => h32 = h' ∧ e.length = 25 ∧ e.getD 0 .undef = .int .u64 v ∧ e.getD 5 .undef = u3 ∧ e.getD 10 .undef = .int .i64 (zs2.length : Int) ∧ e.getD 11 .undef = .int .i64 s.2 ∧ e.getD 12 .undef = .bool (decide (s.2 < (zs2.length : Int)))) (by
      simp only [↓WE, WA, WL, aop, ofValue, ofCell, isConst, abin, acall1, abuiltin, aun, AV.cells, AV.one, Nat.reduceAdd, Int.reduceLT, Int.reduceLE, ↓WD, W0, evalOp, Nat.reduceEqDiff, Nat.reduceLT, ↓reduceIte, reduceCtorEq, hl, e0, e5, e10, e11]
      refine ⟨rfl, ?_, ?_, ?_, ?_, ?_, ?_⟩ <;> simp only [List.length_set, W0, Nat.reduceEqDiff, Nat.reduceLT, ↓reduceIte, hl, e0, e5, e10, e11]) ?_
    rintro envg34 _ ⟨rfl, hl, e0, e5, e10, e11, e12⟩
    try simp only [↓WD, W0, evalOp, Nat.reduceEqDiff, Nat.reduceLT, ↓reduceIte, reduceCtorEq, hl, e0, e5, e10, e11, e12]
    refine CondK_dec (fun c36 => ?_) (fun c36 => ?_)
    · rw [if_pos c36] at wr52
      try simp only [↓WD, W0, evalOp, Nat.reduceEqDiff, Nat.reduceLT, ↓reduceIte, reduceCtorEq, hl, e0, e5, e10, e11, e12]
      rw [AW_region]
      refine AE_joinR (fun e h' => h32 = h' ∧ e.length = 25 ∧ e.getD 0 .undef = .int .u64 v ∧ e.getD 5 .undef = u3 ∧ e.getD 6 .undef = .int .i64 s.2 ∧ e.getD 10 .undef = .int .i64 (zs2.length : Int) ∧ e.getD 11 .undef = .int .i64 s.2) (by
        simp only [↓WE, WA, WL, aop, ofValue, ofCell, isConst, abin, acall1, abuiltin, aun, AV.cells, AV.one, Nat.reduceAdd, Int.reduceLT, Int.reduceLE, ↓WD, W0, evalOp, Nat.reduceEqDiff, Nat.reduceLT, ↓reduceIte, reduceCtorEq, hl, e0, e5, e10, e11, e12]
        refine ⟨rfl, ?_, ?_, ?_, ?_, ?_, ?_⟩ <;> simp only [List.length_set, W0, Nat.reduceEqDiff, Nat.reduceLT, ↓reduceIte, hl, e0, e5, e10, e11, e12]) ?_
      rintro envg37 _ ⟨rfl, hl, e0, e5, e6, e10, e11⟩
      try simp only [↓WD, W0, evalOp, Nat.reduceEqDiff, Nat.reduceLT, ↓reduceIte, reduceCtorEq, hl, e0, e5, e6, e10, e11]
      rw [AW_region]
      obtain ⟨y38, qy38, wr52⟩ := obind wr52
      have oy38 := shr_int (k := .u64) qy38
      have oc39 := fun g : AH => aconv_int (P := Try.prog) (h := g) (n := y38) (k' := .u64) Try.underlying24 Try.underlying5
      obtain ⟨x40, qx40, wr52⟩ := obind wr52
      obtain ⟨i41, off42, oi43, hp44⟩ := RO.addr (P := Try.prog) sl_28 (S33.row_ro (i := 0) rfl) qx40
      obtain ⟨y48, qy48, wr52⟩ := obind wr52
      obtain ⟨h45, os46, S47⟩ := S33.rstore (P := Try.prog) 0 rfl hp44 (x := x40) (z := IntKind.u8.wrap y38) (by first | exact qx40 | (simp only [idxL] at *; assumption)) (t := 5) (o := 0) (v := .int .u8 (IntKind.u8.wrap y38)) rfl sz_5 rfl (by simp) rfl qy48
      simp only [Nat.add_zero] at os46
      have S49 : Sep h [] h45 [.row u3 5 1 (y48.map (cellI .u8))] := S47
      refine AE_joinR (fun e h' => h45 = h' ∧ e.length = 25 ∧ e.getD 0 .undef = .int .u64 v ∧ e.getD 5 .undef = u3 ∧ e.getD 10 .undef = .int .i64 (zs2.length : Int) ∧ e.getD 11 .undef = .int .i64 s.2) (by
        simp only [↓WE, WA, WL, aop, ofValue, ofCell, isConst, abin, acall1, abuiltin, aun, AV.cells, AV.one, Nat.reduceAdd, Int.reduceLT, Int.reduceLE, ↓WD, W0, evalOp, Nat.reduceEqDiff, Nat.reduceLT, ↓reduceIte, reduceCtorEq, hl, e0, e5, e6, e10, e11, oy38, oc39, oi43, os46]
        refine ⟨rfl, ?_, ?_, ?_, ?_, ?_⟩ <;> simp only [List.length_set, W0, Nat.reduceEqDiff, Nat.reduceLT, ↓reduceIte, hl, e0, e5, e6, e10, e11]) ?_
      rintro envg50 _ ⟨rfl, hl, e0, e5, e10, e11⟩
      try simp only [↓WD, W0, evalOp, Nat.reduceEqDiff, Nat.reduceLT, ↓reduceIte, reduceCtorEq, hl, e0, e5, e10, e11]
      rw [AW_region]
      refine AE_joinR (fun e h' => h45 = h' ∧ e.length = 25 ∧ e.getD 0 .undef = .int .u64 v ∧ e.getD 5 .undef = u3 ∧ e.getD 10 .undef = .int .i64 (zs2.length : Int) ∧ e.getD 11 .undef = .int .i64 (IntKind.i64.wrap (s.2 + 1))) (by
        simp only [↓WE, WA, WL, aop, ofValue, ofCell, isConst, abin, acall1, abuiltin, aun, AV.cells, AV.one, Nat.reduceAdd, Int.reduceLT, Int.reduceLE, ↓WD, W0, evalOp, Nat.reduceEqDiff, Nat.reduceLT, ↓reduceIte, reduceCtorEq, hl, e0, e5, e10, e11]
        refine ⟨rfl, ?_, ?_, ?_, ?_, ?_⟩ <;> simp only [List.length_set, W0, Nat.reduceEqDiff, Nat.reduceLT, ↓reduceIte, hl, e0, e5, e10, e11]) ?_
      rintro envg51 _ ⟨rfl, hl, e0, e5, e10, e11⟩
      try simp only [↓WD, W0, evalOp, Nat.reduceEqDiff, Nat.reduceLT, ↓reduceIte, reduceCtorEq, hl, e0, e5, e10, e11]
      obtain rfl := Option.some.inj wr52
      rw [KP_nil, QL_normal]
      refine ⟨_, rfl, ?_, ?_, ?_, ?_, ?_, S49⟩ <;> simp only [List.length_set, W0, Nat.reduceEqDiff, Nat.reduceLT, ↓reduceIte, hl, e0, e5, e10, e11]
    · rw [if_neg c36] at wr52
      try simp only [↓WD, W0, evalOp, Nat.reduceEqDiff, Nat.reduceLT, ↓reduceIte, reduceCtorEq, hl, e0, e5, e10, e11, e12]
      obtain rfl := Option.some.inj wr52
      rw [KP_nil, QL_exit]
      refine ⟨_, rfl, rfl, ?_, ?_, S33⟩ <;> simp only [List.length_set, W0, Nat.reduceEqDiff, Nat.reduceLT, ↓reduceIte, hl, e0, e5, e10, e11, e12]
  · refine ⟨?_, ?_, ?_, ?_, ?_, S8⟩ <;> simp only [List.length_set, W0, Nat.reduceEqDiff, Nat.reduceLT, ↓reduceIte, hl, e0, e5, e10, e11]
  · rintro x envr52 h53 ⟨rfl, hl, e5, S54⟩
    try simp only [↓WD, W0, evalOp, Nat.reduceEqDiff, Nat.reduceLT, ↓reduceIte, reduceCtorEq, hl, e5]
    rw [AW_region]
    have oc55 := RO.str (P := Try.prog) Try.underlying28 Try.underlying5 Try.underlying9 (S54.row_ro (i := 0) rfl)
    refine AE_joinR (fun e h' => h53 = h' ∧ e.length = 25 ∧ e.getD 4 .undef = .str (r52.map byt)) (by
      simp only [↓WE, WA, WL, aop, ofValue, ofCell, isConst, abin, acall1, abuiltin, aun, AV.cells, AV.one, Nat.reduceAdd, Int.reduceLT, Int.reduceLE, ↓WD, W0, evalOp, Nat.reduceEqDiff, Nat.reduceLT, ↓reduceIte, reduceCtorEq, hl, e5, oc55]
      refine ⟨rfl, ?_, ?_⟩ <;> simp only [List.length_set, W0, Nat.reduceEqDiff, Nat.reduceLT, ↓reduceIte, hl, e5]) ?_
    rintro envg56 _ ⟨rfl, hl, e4⟩
    try simp only [↓WD, W0, evalOp, Nat.reduceEqDiff, Nat.reduceLT, ↓reduceIte, reduceCtorEq, hl, e4]
    refine KP_ret (vs := [.str (r52.map byt)]) (by simp only [aresults, aresult, gs, List.length_set, Nat.reduceEqDiff, Nat.reduceLT, ↓reduceIte, hl, e4]) ?_
    obtain rfl := Option.some.inj hF
    exact rfl
theorem W_field_P32 {K : PureK} (k117 : K 117 = some kf_117) (n90 : K 90 = none) (m : Nat) (hm : NF + 1 ≤ m) (h : AH) (n_ : Int) {r : (List UInt8)} (hF : F_field_P32 n_ = some r) :
    AR (acall Try.prog (hooksOf K) (drawnOf Try.prog (tabOf K)) m 90 [.int .i64 n_] h) (fun v h' => v = .str r) := by
  obtain ⟨m, rfl⟩ : ∃ k, m = k + 1 := ⟨m - 1, by omega⟩
  refine AR_call (hooksOf_none n90) Try.func90 rfl _ _ fun env hl he => ?_
  have e0 := he 0
  simp only [List.getD_cons_zero, List.getD_cons_succ] at e0
  simp only [Try.f90] at hl ⊢
  simp only [List.length_cons, List.length_nil, Nat.reduceAdd, Nat.reduceSub] at hl
  clear he
  have S0 : Sep h [] h [] := Sep.nil h
  rw [F_field_P32] at hF
  try simp only [↓WD, W0, evalOp, Nat.reduceEqDiff, Nat.reduceLT, ↓reduceIte, reduceCtorEq, hl, e0]
  rw [AW_region]
  refine AE_joinR (fun e h' => h = h' ∧ e.length = 6 ∧ e.getD 0 .undef = .int .i64 n_) (by
    simp only [↓WE, WA, WL, aop, ofValue, ofCell, isConst, abin, acall1, abuiltin, aun, AV.cells, AV.one, Nat.reduceAdd, Int.reduceLT, Int.reduceLE, ↓WD, W0, evalOp, Nat.reduceEqDiff, Nat.reduceLT, ↓reduceIte, reduceCtorEq, hl, e0]
    refine ⟨rfl, ?_, ?_⟩ <;> simp only [List.length_set, W0, Nat.reduceEqDiff, Nat.reduceLT, ↓reduceIte, hl, e0]) ?_
  rintro envg1 _ ⟨rfl, hl, e0⟩
  try simp only [↓WD, W0, evalOp, Nat.reduceEqDiff, Nat.reduceLT, ↓reduceIte, reduceCtorEq, hl, e0]
  rw [AW_region]
  have oc2 := fun g : AH => aconv_int (P := Try.prog) (h := g) (n := n_) (k' := .i64) Try.underlying3 Try.underlying24
  obtain ⟨y3, qy3, hF⟩ := obind hF
  have og4 := fun (D : Drawn) (n : Nat) (g : AH) => call_hook (P := Try.prog) (D := D) k117 n (args := [.int .u64 (IntKind.u64.wrap n_), .int .i64 4]) (v := .str y3) ((kf_117_eq (IntKind.u64.wrap n_) 4).trans (by rw [qy3]; rfl)) g
  refine AE_joinR (fun e h' => h = h' ∧ e.length = 6 ∧ e.getD 2 .undef = .str y3) (by
    simp only [↓WE, WA, WL, aop, ofValue, ofCell, isConst, abin, acall1, abuiltin, aun, AV.cells, AV.one, Nat.reduceAdd, Int.reduceLT, Int.reduceLE, ↓WD, W0, evalOp, Nat.reduceEqDiff, Nat.reduceLT, ↓reduceIte, reduceCtorEq, hl, e0, oc2, og4]
    refine ⟨rfl, ?_, ?_⟩ <;> simp only [List.length_set, W0, Nat.reduceEqDiff, Nat.reduceLT, ↓reduceIte, hl, e0]) ?_
  rintro envg5 _ ⟨rfl, hl, e2⟩
  try simp only [↓WD, W0, evalOp, Nat.reduceEqDiff, Nat.reduceLT, ↓reduceIte, reduceCtorEq, hl, e2]
  refine KP_ret (vs := [.str y3]) (by simp only [aresults, aresult, gs, List.length_set, Nat.reduceEqDiff, Nat.reduceLT, ↓reduceIte, hl, e2]) ?_
  obtain rfl := Option.some.inj hF
  exact rfl
theorem W_digest_writer_path {K : PureK} (k90 : K 90 = some kf_90) (k128 : K 128 = some hb77) (n66 : K 66 = none) (n106 : K 106 = none) (n118 : K 118 = none) (m : Nat) (hm : NF + 4 ≤ m) (h : AH) (iw : Nat) (p0w : AV) (v0w : AV) (w : Gdigest_writer) (hokw : ∀ e ∈ ([.blk iw [p0w, v0w] 135, .buf iw 0 p0w v0w 5 w.xBuilder] : List Ent), e.ok h) (hndw : (([.blk iw [p0w, v0w] 135, .buf iw 0 p0w v0w 5 w.xBuilder] : List Ent).flatMap Ent.ids).Nodup) (p : List UInt8) {r : Gdigest_writer} (hF : F_digest_writer_path w p = some r) :
    AR (acall Try.prog (hooksOf K) (drawnOf Try.prog (tabOf K)) m 118 [.ptr iw 0, .str p] h) (fun v h' => ∃ xp0w : AV, ∃ xv0w : AV, v = .tup [] ∧ Sep h (([.blk iw [p0w, v0w] 135, .buf iw 0 p0w v0w 5 w.xBuilder] : List Ent).flatMap Ent.ids) h' [.blk iw [xp0w, xv0w] 135, .buf iw 0 xp0w xv0w 5 r.xBuilder]) := by
  obtain ⟨m, rfl⟩ : ∃ k, m = k + 1 := ⟨m - 1, by omega⟩
  refine AR_call (hooksOf_none n118) Try.func118 rfl _ _ fun env hl he => ?_
  have e0 := he 0
  have e1 := he 1
  simp only [List.getD_cons_zero, List.getD_cons_succ] at e0 e1
  simp only [Try.f118] at hl ⊢
  simp only [List.length_cons, List.length_nil, Nat.reduceAdd, Nat.reduceSub] at hl
  clear he
  have S0 : Sep h (([.blk iw [p0w, v0w] 135, .buf iw 0 p0w v0w 5 w.xBuilder] : List Ent).flatMap Ent.ids) h [.blk iw [p0w, v0w] 135, .buf iw 0 p0w v0w 5 w.xBuilder] := Sep.lendN hokw hndw
  rw [F_digest_writer_path] at hF
  try simp only [↓WD, W0, evalOp, Nat.reduceEqDiff, Nat.reduceLT, ↓reduceIte, reduceCtorEq, hl, e0, e1]
  rw [AW_drawn, AE_drawnK (Ksub.cons k90 (Ksub.cons k128 Ksub.nil)) (by kernel_rfl)]
  have ol1 := fun g : AH => alen_str (P := Try.prog) (h := g) (l := p) Try.underlying9
  obtain ⟨y2, qy2, hF⟩ := obind hF
  have og3 := fun (cf : CallF) (g : AH) => tab_hook (cf := cf) k90 (args := [.int .i64 (p.length : Int)]) (v := .str y2) ((kf_90_eq (p.length : Int)).trans (by rw [qy2]; rfl)) g
  obtain ⟨s4, qs4, hF⟩ := obind hF
  have os4 := cat_str qs4
  have S5 : Sep h (([.blk iw [p0w, v0w] 135, .buf iw 0 p0w v0w 5 w.xBuilder] : List Ent).flatMap Ent.ids) h ([] ++ [.blk iw ([] ++ p0w :: v0w :: []) 135, .buf iw 0 p0w v0w 5 w.xBuilder]) := S0.pick [0, 1] (by decide) rfl
  obtain ⟨b6, qb6, hF⟩ := obind hF
  obtain ⟨p7, u8, h9, ow12, S11⟩ := Sep.swrite (T := tabOf K) (pre := []) (post := []) S5 bl_135_0 k128 n106 n66 qb6 m (by omega)
  have ow10 : acall Try.prog (hooksOf K) (drawnOf Try.prog (tabOf K)) m 66 [.ptr iw 0, .str s4] h = some (.tup [.int .i64 (s4.length : Int), .val .nilIface], h9) := ow12
  have S13 : Sep h (([.blk iw [p0w, v0w] 135, .buf iw 0 p0w v0w 5 w.xBuilder] : List Ent).flatMap Ent.ids) h9 [.blk iw [p7, u8] 135, .buf iw 0 p7 u8 5 b6] := S11
  refine AE_joinR (fun e h' => h9 = h' ∧ e.length = 13) (by
    simp only [↓WE, WA, WL, aop, ofValue, ofCell, isConst, abin, acall1, abuiltin, aun, AV.cells, AV.one, Nat.reduceAdd, Int.reduceLT, Int.reduceLE, ↓WD, W0, evalOp, Nat.reduceEqDiff, Nat.reduceLT, ↓reduceIte, reduceCtorEq, hl, e0, e1, fa_135_0, ol1, og3, os4, ow10, tab_none n66]
    exact ⟨rfl, (by simp only [List.length_set, hl])⟩) ?_
  rintro envg14 _ ⟨rfl, hl⟩
  try simp only [↓WD, W0, evalOp, Nat.reduceEqDiff, Nat.reduceLT, ↓reduceIte, reduceCtorEq, hl]
  refine KP_end (vs := []) (by simp only [aresults, aresult, gs, List.length_set, Nat.reduceEqDiff, Nat.reduceLT, ↓reduceIte, hl]) ?_
  obtain rfl := Option.some.inj hF
  exact ⟨p7, u8, rfl, S13⟩
theorem W_field_P16 {K : PureK} (k117 : K 117 = some kf_117) (n116 : K 116 = none) (m : Nat) (hm : NF + 1 ≤ m) (h : AH) (n_ : Int) {r : (List UInt8)} (hF : F_field_P16 n_ = some r) :
    AR (acall Try.prog (hooksOf K) (drawnOf Try.prog (tabOf K)) m 116 [.int .i64 n_] h) (fun v h' => v = .str r) := by
  obtain ⟨m, rfl⟩ : ∃ k, m = k + 1 := ⟨m - 1, by omega⟩
  refine AR_call (hooksOf_none n116) Try.func116 rfl _ _ fun env hl he => ?_
  have e0 := he 0
  simp only [List.getD_cons_zero, List.getD_cons_succ] at e0
  simp only [Try.f116] at hl ⊢
  simp only [List.length_cons, List.length_nil, Nat.reduceAdd, Nat.reduceSub] at hl
  clear he
  have S0 : Sep h [] h [] := Sep.nil h
  rw [F_field_P16] at hF
  try simp only [↓WD, W0, evalOp, Nat.reduceEqDiff, Nat.reduceLT, ↓reduceIte, reduceCtorEq, hl, e0]
  rw [AW_region]
  refine AE_joinR (fun e h' => h = h' ∧ e.length = 6 ∧ e.getD 0 .undef = .int .i64 n_) (by
    simp only [↓WE, WA, WL, aop, ofValue, ofCell, isConst, abin, acall1, abuiltin, aun, AV.cells, AV.one, Nat.reduceAdd, Int.reduceLT, Int.reduceLE, ↓WD, W0, evalOp, Nat.reduceEqDiff, Nat.reduceLT, ↓reduceIte, reduceCtorEq, hl, e0]
    refine ⟨rfl, ?_, ?_⟩ <;> simp only [List.length_set, W0, Nat.reduceEqDiff, Nat.reduceLT, ↓reduceIte, hl, e0]) ?_
  rintro envg1 _ ⟨rfl, hl, e0⟩
  try simp only [↓WD, W0, evalOp, Nat.reduceEqDiff, Nat.reduceLT, ↓reduceIte, reduceCtorEq, hl, e0]
  rw [AW_region]
  have oc2 := fun g : AH => aconv_int (P := Try.prog) (h := g) (n := n_) (k' := .i64) Try.underlying3 Try.underlying24
  obtain ⟨y3, qy3, hF⟩ := obind hF
  have og4 := fun (D : Drawn) (n : Nat) (g : AH) => call_hook (P := Try.prog) (D := D) k117 n (args := [.int .u64 (IntKind.u64.wrap n_), .int .i64 2]) (v := .str y3) ((kf_117_eq (IntKind.u64.wrap n_) 2).trans (by rw [qy3]; rfl)) g
  refine AE_joinR (fun e h' => h = h' ∧ e.length = 6 ∧ e.getD 2 .undef = .str y3) (by
    simp only [↓WE, WA, WL, aop, ofValue, ofCell, isConst, abin, acall1, abuiltin, aun, AV.cells, AV.one, Nat.reduceAdd, Int.reduceLT, Int.reduceLE, ↓WD, W0, evalOp, Nat.reduceEqDiff, Nat.reduceLT, ↓reduceIte, reduceCtorEq, hl, e0, oc2, og4]
    refine ⟨rfl, ?_, ?_⟩ <;> simp only [List.length_set, W0, Nat.reduceEqDiff, Nat.reduceLT, ↓reduceIte, hl, e0]) ?_
  rintro envg5 _ ⟨rfl, hl, e2⟩
  try simp only [↓WD, W0, evalOp, Nat.reduceEqDiff, Nat.reduceLT, ↓reduceIte, reduceCtorEq, hl, e2]
  refine KP_ret (vs := [.str y3]) (by simp only [aresults, aresult, gs, List.length_set, Nat.reduceEqDiff, Nat.reduceLT, ↓reduceIte, hl, e2]) ?_
  obtain rfl := Option.some.inj hF
  exact rfl
end Go.Proofs.YtobhmahlenjheaaM
