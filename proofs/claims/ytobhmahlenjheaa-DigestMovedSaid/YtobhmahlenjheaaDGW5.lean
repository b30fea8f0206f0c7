/- The abstract machine computes what the plain functions say: printed by lift.py. -/
import Derived.Test.YtobhmahlenjheaaDGW4
import Derived.KernelRfl
set_option linter.unusedSimpArgs false
set_option linter.unusedVariables false
namespace Go.Proofs.YtobhmahlenjheaaM
open Go Go.RowKit
set_option maxHeartbeats 4000000
set_option maxRecDepth 100000
theorem W_law39_DigestTrees {K : PureK} (k15 : K 15 = some kf_15) (k16 : K 16 = some kf_16) (k49 : K 49 = some kf_49) (k50 : K 50 = some kf_50) (k90 : K 90 = some kf_90) (k95 : K 95 = some kf_95) (k96 : K 96 = some kf_96) (k116 : K 116 = some kf_116) (k128 : K 128 = some hb77) (n44 : K 44 = none) (n46 : K 46 = none) (n48 : K 48 = none) (n51 : K 51 = none) (n52 : K 52 = none) (n53 : K 53 = none) (n54 : K 54 = none) (n55 : K 55 = none) (n56 : K 56 = none) (n57 : K 57 = none) (n66 : K 66 = none) (n67 : K 67 = none) (n68 : K 68 = none) (n91 : K 91 = none) (n92 : K 92 = none) (n93 : K 93 = none) (n106 : K 106 = none) (n118 : K 118 = none) (n12 : K 12 = none) (m : Nat) (hm : NF + 8 ≤ m) (h : AH) (ut : AV) (t : List Gapi_Node) (hut : RO 5 ut h (t.map Gapi_Node.cells)) (dir : List UInt8) {r : Bool} (hF : F_law39_DigestTrees t dir = some r) :
    AR (acall Try.prog (hooksOf K) (drawnOf Try.prog (tabOf K)) m 12 [ut, .str dir] h) (fun v h' => v = .bool r ∧ Sep h [] h' []) := by
  obtain ⟨m, rfl⟩ : ∃ k, m = k + 1 := ⟨m - 1, by omega⟩
  refine AR_call (hooksOf_none n12) Try.func12 rfl _ _ fun env hl he => ?_
  have e0 := he 0
  have e1 := he 1
  simp only [List.getD_cons_zero, List.getD_cons_succ] at e0 e1
  simp only [Try.f12] at hl ⊢
  simp only [List.length_cons, List.length_nil, Nat.reduceAdd, Nat.reduceSub] at hl
  clear he
  have S0 : Sep h [] h [] := Sep.nil h
  rw [F_law39_DigestTrees] at hF
  try simp only [↓WD, W0, evalOp, Nat.reduceEqDiff, Nat.reduceLT, ↓reduceIte, reduceCtorEq, hl, e0, e1]
  rw [AW_region]
  refine AE_joinR (fun e h' => h = h' ∧ e.length = 65 ∧ e.getD 0 .undef = ut ∧ e.getD 1 .undef = .str dir) (by
    simp only [↓WE, WA, WL, aop, ofValue, ofCell, isConst, abin, acall1, abuiltin, aun, AV.cells, AV.one, Nat.reduceAdd, Int.reduceLT, Int.reduceLE, ↓WD, W0, evalOp, Nat.reduceEqDiff, Nat.reduceLT, ↓reduceIte, reduceCtorEq, hl, e0, e1]
    refine ⟨rfl, ?_, ?_, ?_⟩ <;> simp only [List.length_set, W0, Nat.reduceEqDiff, Nat.reduceLT, ↓reduceIte, hl, e0, e1]) ?_
  rintro envg1 _ ⟨rfl, hl, e0, e1⟩
  try simp only [↓WD, W0, evalOp, Nat.reduceEqDiff, Nat.reduceLT, ↓reduceIte, reduceCtorEq, hl, e0, e1]
  rw [AW_region]
  obtain ⟨y2, qy2, hF⟩ := obind hF
  obtain ⟨v6, h4, og3, rfl, S5⟩ := (W_law39_awake k15 k16 k49 k90 k116 k128 n46 n51 n56 n66 n67 n68 n91 n92 n106 n118 n44 m (by omega) h  qy2).out
  have S7 : Sep h [] h4 [] := S0.call0 S5
  refine AE_joinR (fun e h' => h4 = h' ∧ e.length = 65 ∧ e.getD 0 .undef = ut ∧ e.getD 1 .undef = .str dir ∧ e.getD 9 .undef = .bool !y2) (by
    simp only [↓WE, WA, WL, aop, ofValue, ofCell, isConst, abin, acall1, abuiltin, aun, AV.cells, AV.one, Nat.reduceAdd, Int.reduceLT, Int.reduceLE, ↓WD, W0, evalOp, Nat.reduceEqDiff, Nat.reduceLT, ↓reduceIte, reduceCtorEq, hl, e0, e1, og3]
    refine ⟨rfl, ?_, ?_, ?_, ?_⟩ <;> simp only [List.length_set, W0, Nat.reduceEqDiff, Nat.reduceLT, ↓reduceIte, hl, e0, e1]) ?_
  rintro envg8 _ ⟨rfl, hl, e0, e1, e9⟩
  try simp only [↓WD, W0, evalOp, Nat.reduceEqDiff, Nat.reduceLT, ↓reduceIte, reduceCtorEq, hl, e0, e1, e9]
  refine CondK_boo (fun c11 => ?_) (fun c11 => ?_)
  · rw [if_pos c11] at hF
    try simp only [↓WD, W0, evalOp, Nat.reduceEqDiff, Nat.reduceLT, ↓reduceIte, reduceCtorEq, hl, e0, e1, e9]
    rw [AW_region]
    refine AE_joinR (fun e h' => h4 = h' ∧ e.length = 65 ∧ e.getD 4 .undef = .bool false) (by
      simp only [↓WE, WA, WL, aop, ofValue, ofCell, isConst, abin, acall1, abuiltin, aun, AV.cells, AV.one, Nat.reduceAdd, Int.reduceLT, Int.reduceLE, ↓WD, W0, evalOp, Nat.reduceEqDiff, Nat.reduceLT, ↓reduceIte, reduceCtorEq, hl, e0, e1, e9]
      refine ⟨rfl, ?_, ?_⟩ <;> simp only [List.length_set, W0, Nat.reduceEqDiff, Nat.reduceLT, ↓reduceIte, hl, e0, e1, e9]) ?_
    rintro envg12 _ ⟨rfl, hl, e4⟩
    try simp only [↓WD, W0, evalOp, Nat.reduceEqDiff, Nat.reduceLT, ↓reduceIte, reduceCtorEq, hl, e4]
    refine KP_ret (vs := [.bool false]) (by simp only [aresults, aresult, gs, List.length_set, Nat.reduceEqDiff, Nat.reduceLT, ↓reduceIte, hl, e4]) ?_
    obtain rfl := Option.some.inj hF
    exact ⟨rfl, S7⟩
  · rw [if_neg (nf c11)] at hF
    try simp only [↓WD, W0, evalOp, Nat.reduceEqDiff, Nat.reduceLT, ↓reduceIte, reduceCtorEq, hl, e0, e1, e9]
    rw [AW_region]
    obtain ⟨j23, qj23, hF⟩ := obind hF
    refine AE_joinR (fun e h' => e.length = 65 ∧ e.getD 0 .undef = ut ∧ e.getD 1 .undef = .str dir ∧ e.getD 17 .undef = .bool j23 ∧ Sep h [] h' []) ?_ ?_
    · obtain ⟨y13, qy13, qj23⟩ := obind qj23
      obtain ⟨v17, h15, og14, rfl, S16⟩ := (W_law24_Few n48 m (by omega) h4 ut t (S7.ro hut) 12 qy13).out
      have S18 : Sep h [] h15 [] := S7.call0 S16
      simp only [↓WE, WA, WL, aop, ofValue, ofCell, isConst, abin, acall1, abuiltin, aun, AV.cells, AV.one, Nat.reduceAdd, Int.reduceLT, Int.reduceLE, ↓WD, W0, evalOp, Nat.reduceEqDiff, Nat.reduceLT, ↓reduceIte, reduceCtorEq, hl, e0, e1, e9, og14]
      refine GuardW_boo (fun c19 => ?_) (fun c19 => ?_)
      · rw [if_pos c19] at qj23
        have d20 := c19
        simp only [↓WE, WA, WL, aop, ofValue, ofCell, isConst, abin, acall1, abuiltin, aun, AV.cells, AV.one, Nat.reduceAdd, Int.reduceLT, Int.reduceLE, ↓WD, W0, evalOp, Nat.reduceEqDiff, Nat.reduceLT, ↓reduceIte, reduceCtorEq, hl, e0, e1, e9, og14, d20]
        obtain rfl := Option.some.inj qj23
        refine ⟨?_, ?_, ?_, ?_, S18⟩ <;> simp only [List.length_set, W0, Nat.reduceEqDiff, Nat.reduceLT, ↓reduceIte, hl, e0, e1, e9]
      · rw [if_neg (nf c19)] at qj23
        have d21 := c19
        have ol22 := fun g : AH => alen_str (P := Try.prog) (h := g) (l := dir) Try.underlying9
        simp only [↓WE, WA, WL, aop, ofValue, ofCell, isConst, abin, acall1, abuiltin, aun, AV.cells, AV.one, Nat.reduceAdd, Int.reduceLT, Int.reduceLE, ↓WD, W0, evalOp, Nat.reduceEqDiff, Nat.reduceLT, ↓reduceIte, reduceCtorEq, hl, e0, e1, e9, og14, ol22, d21]
        obtain rfl := Option.some.inj qj23
        refine ⟨?_, ?_, ?_, ?_, S18⟩ <;> simp only [List.length_set, W0, Nat.reduceEqDiff, Nat.reduceLT, ↓reduceIte, hl, e0, e1, e9]
    · rintro envj23 h25 ⟨hl, e0, e1, e17, S24⟩
      try simp only [↓WD, W0, evalOp, Nat.reduceEqDiff, Nat.reduceLT, ↓reduceIte, reduceCtorEq, hl, e0, e1, e17]
      refine CondK_boo (fun c28 => ?_) (fun c28 => ?_)
      · rw [if_pos c28] at hF
        try simp only [↓WD, W0, evalOp, Nat.reduceEqDiff, Nat.reduceLT, ↓reduceIte, reduceCtorEq, hl, e0, e1, e17]
        rw [AW_region]
        refine AE_joinR (fun e h' => h25 = h' ∧ e.length = 65 ∧ e.getD 4 .undef = .bool true) (by
          simp only [↓WE, WA, WL, aop, ofValue, ofCell, isConst, abin, acall1, abuiltin, aun, AV.cells, AV.one, Nat.reduceAdd, Int.reduceLT, Int.reduceLE, ↓WD, W0, evalOp, Nat.reduceEqDiff, Nat.reduceLT, ↓reduceIte, reduceCtorEq, hl, e0, e1, e17]
          refine ⟨rfl, ?_, ?_⟩ <;> simp only [List.length_set, W0, Nat.reduceEqDiff, Nat.reduceLT, ↓reduceIte, hl, e0, e1, e17]) ?_
        rintro envg29 _ ⟨rfl, hl, e4⟩
        try simp only [↓WD, W0, evalOp, Nat.reduceEqDiff, Nat.reduceLT, ↓reduceIte, reduceCtorEq, hl, e4]
        refine KP_ret (vs := [.bool true]) (by simp only [aresults, aresult, gs, List.length_set, Nat.reduceEqDiff, Nat.reduceLT, ↓reduceIte, hl, e4]) ?_
        obtain rfl := Option.some.inj hF
        exact ⟨rfl, S24⟩
      · rw [if_neg (nf c28)] at hF
        try simp only [↓WD, W0, evalOp, Nat.reduceEqDiff, Nat.reduceLT, ↓reduceIte, reduceCtorEq, hl, e0, e1, e17]
        rw [AW_region]
        have ol30 := RO.len (P := Try.prog) sl_67 (S24.ro hut)
        rw [List.length_map] at ol30
        refine AE_joinR (fun e h' => h25 = h' ∧ e.length = 65 ∧ e.getD 0 .undef = ut ∧ e.getD 1 .undef = .str dir ∧ e.getD 18 .undef = ut ∧ e.getD 19 .undef = .int .i64 (t.length : Int) ∧ e.getD 20 .undef = .int .i64 0) (by
          simp only [↓WE, WA, WL, aop, ofValue, ofCell, isConst, abin, acall1, abuiltin, aun, AV.cells, AV.one, Nat.reduceAdd, Int.reduceLT, Int.reduceLE, ↓WD, W0, evalOp, Nat.reduceEqDiff, Nat.reduceLT, ↓reduceIte, reduceCtorEq, hl, e0, e1, e17, ol30]
          refine ⟨rfl, ?_, ?_, ?_, ?_, ?_, ?_⟩ <;> simp only [List.length_set, W0, Nat.reduceEqDiff, Nat.reduceLT, ↓reduceIte, hl, e0, e1, e17]) ?_
        rintro envg31 _ ⟨rfl, hl, e0, e1, e18, e19, e20⟩
        try simp only [↓WD, W0, evalOp, Nat.reduceEqDiff, Nat.reduceLT, ↓reduceIte, reduceCtorEq, hl, e0, e1, e18, e19, e20]
        obtain ⟨r100, qr100, hF⟩ := obind hF
        refine AW_lift (L_law39_DigestTrees_1 t) (fun s e h' => e.length = 65 ∧ e.getD 0 .undef = ut ∧ e.getD 1 .undef = .str dir ∧ e.getD 18 .undef = ut ∧ e.getD 19 .undef = .int .i64 (t.length : Int) ∧ e.getD 20 .undef = .int .i64 s ∧ Sep h [] h' []) (fun r100 x e h' => (∃ (t101 : Unit), r100 = (.inl t101) ∧ x = .exit 0 ∧ e.length = 65 ∧ e.getD 0 .undef = ut ∧ e.getD 1 .undef = .str dir ∧ Sep h [] h' []) ∨ (∃ (t104 : Unit), r100 = (.inr t104) ∧ x = .ret ∧ e.length = 65 ∧ e.getD 4 .undef = .bool false ∧ Sep h [] h' [])) qr100 (by omega) ?_ ?_ ?_
        · rintro s envr100 h66 or100 ⟨hl, e0, e1, e18, e19, e20, S67⟩ wr100
          rw [L_law39_DigestTrees_1] at wr100
          try simp only [↓WD, W0, evalOp, Nat.reduceEqDiff, Nat.reduceLT, ↓reduceIte, reduceCtorEq, hl, e0, e1, e18, e19, e20]
          rw [AW_region]
          refine AE_joinR (fun e h' => h66 = h' ∧ e.length = 65 ∧ e.getD 0 .undef = ut ∧ e.getD 1 .undef = .str dir ∧ e.getD 18 .undef = ut ∧ e.getD 19 .undef = .int .i64 (t.length : Int) ∧ e.getD 20 .undef = .int .i64 s ∧ e.getD 21 .undef = .bool (decide (s < (t.length : Int)))) (by
            simp only [↓WE, WA, WL, aop, ofValue, ofCell, isConst, abin, acall1, abuiltin, aun, AV.cells, AV.one, Nat.reduceAdd, Int.reduceLT, Int.reduceLE, ↓WD, W0, evalOp, Nat.reduceEqDiff, Nat.reduceLT, ↓reduceIte, reduceCtorEq, hl, e0, e1, e18, e19, e20]
            refine ⟨rfl, ?_, ?_, ?_, ?_, ?_, ?_, ?_⟩ <;> simp only [List.length_set, W0, Nat.reduceEqDiff, Nat.reduceLT, ↓reduceIte, hl, e0, e1, e18, e19, e20]) ?_
          rintro envg68 _ ⟨rfl, hl, e0, e1, e18, e19, e20, e21⟩
          try simp only [↓WD, W0, evalOp, Nat.reduceEqDiff, Nat.reduceLT, ↓reduceIte, reduceCtorEq, hl, e0, e1, e18, e19, e20, e21]
          refine CondK_dec (fun c70 => ?_) (fun c70 => ?_)
          · rw [if_pos c70] at wr100
            try simp only [↓WD, W0, evalOp, Nat.reduceEqDiff, Nat.reduceLT, ↓reduceIte, reduceCtorEq, hl, e0, e1, e18, e19, e20, e21]
            rw [AW_region]
            obtain ⟨x71, qx71, wr100⟩ := obind wr100
            obtain ⟨i72, off73, oi74, hp75⟩ := RO.addr (P := Try.prog) sl_67 (S67.ro hut) qx71
            have ol76 := RO.ld (P := Try.prog) (S67.ro hut) hp75 qx71 (t := 75) (o := 0) (v := .agg [.str x71.xPath, .bool x71.xDir, .str x71.xData, .int .i64 x71.xMode, .int .i64 x71.xTime]) (by omega) (by simp only [apart, ag_75, sz_75]; rfl)
            simp only [Nat.add_zero] at ol76
            obtain ⟨i77, h78, oa79, S80⟩ := S67.alloc 75 [.str [], .bool false, .str [], .int .i64 0, .int .i64 0]
            have S82 : Sep h [] h78 [.blk i77 [.str [], .bool false, .str [], .int .i64 0, .int .i64 0] 75] := S80
            obtain ⟨h83, os84, S85⟩ := S82.store (P := Try.prog) 0 rfl (t := 75) (off := 0) (v := .agg [.str x71.xPath, .bool x71.xDir, .str x71.xData, .int .i64 x71.xMode, .int .i64 x71.xTime]) (c' := [.str x71.xPath, .bool x71.xDir, .str x71.xData, .int .i64 x71.xMode, .int .i64 x71.xTime]) rfl sz_75 rfl (by simp) rfl
            have S86 : Sep h [] h83 [.blk i77 [.str x71.xPath, .bool x71.xDir, .str x71.xData, .int .i64 x71.xMode, .int .i64 x71.xTime] 75] := S85
            refine AE_joinR (fun e h' => h83 = h' ∧ e.length = 65 ∧ e.getD 0 .undef = ut ∧ e.getD 1 .undef = .str dir ∧ e.getD 6 .undef = .ptr i77 0 ∧ e.getD 18 .undef = ut ∧ e.getD 19 .undef = .int .i64 (t.length : Int) ∧ e.getD 20 .undef = .int .i64 s) (by
              simp only [↓WE, WA, WL, aop, ofValue, ofCell, isConst, abin, acall1, abuiltin, aun, AV.cells, AV.one, Nat.reduceAdd, Int.reduceLT, Int.reduceLE, ↓WD, W0, evalOp, Nat.reduceEqDiff, Nat.reduceLT, ↓reduceIte, reduceCtorEq, hl, e0, e1, e18, e19, e20, e21, oi74, ol76, zero_75, oa79, os84]
              refine ⟨rfl, ?_, ?_, ?_, ?_, ?_, ?_, ?_⟩ <;> simp only [List.length_set, W0, Nat.reduceEqDiff, Nat.reduceLT, ↓reduceIte, hl, e0, e1, e18, e19, e20, e21]) ?_
            rintro envg87 _ ⟨rfl, hl, e0, e1, e6, e18, e19, e20⟩
            try simp only [↓WD, W0, evalOp, Nat.reduceEqDiff, Nat.reduceLT, ↓reduceIte, reduceCtorEq, hl, e0, e1, e6, e18, e19, e20]
            rw [AW_drawn, AE_drawnK (Ksub.cons k15 (Ksub.cons k16 (Ksub.cons k49 (Ksub.cons k50 (Ksub.cons k90 (Ksub.cons k95 (Ksub.cons k96 (Ksub.cons k116 (Ksub.cons k128 Ksub.nil))))))))) (by kernel_rfl)]
            have ol88 := S86.load (P := Try.prog) 0 rfl (t := 75) (off := 0) (v := .agg [.str x71.xPath, .bool x71.xDir, .str x71.xData, .int .i64 x71.xMode, .int .i64 x71.xTime]) (by simp only [apart, ag_75, sz_75]; rfl)
            obtain ⟨y89, qy89, wr100⟩ := obind wr100
            have og90 := fun (cf : CallF) (g : AH) => tab_hook (cf := cf) k49 (args := [.agg [.str x71.xPath, .bool x71.xDir, .str x71.xData, .int .i64 x71.xMode, .int .i64 x71.xTime]]) (v := .str y89) ((kf_49_eq x71).trans (by rw [qy89]; rfl)) g
            have ol91 := S86.load (P := Try.prog) 0 rfl (t := 75) (off := 0) (v := .agg [.str x71.xPath, .bool x71.xDir, .str x71.xData, .int .i64 x71.xMode, .int .i64 x71.xTime]) (by simp only [apart, ag_75, sz_75]; rfl)
            obtain ⟨y92, qy92, wr100⟩ := obind wr100
            have og93 := fun (cf : CallF) (g : AH) => tab_hook (cf := cf) k50 (args := [.agg [.str x71.xPath, .bool x71.xDir, .str x71.xData, .int .i64 x71.xMode, .int .i64 x71.xTime]]) (v := .str y92) ((kf_50_eq x71).trans (by rw [qy92]; rfl)) g
            refine AE_joinR (fun e h' => h83 = h' ∧ e.length = 65 ∧ e.getD 0 .undef = ut ∧ e.getD 1 .undef = .str dir ∧ e.getD 18 .undef = ut ∧ e.getD 19 .undef = .int .i64 (t.length : Int) ∧ e.getD 20 .undef = .int .i64 s ∧ e.getD 28 .undef = .bool (!(y89 == y92))) (by
              simp only [↓WE, WA, WL, aop, ofValue, ofCell, isConst, abin, acall1, abuiltin, aun, AV.cells, AV.one, Nat.reduceAdd, Int.reduceLT, Int.reduceLE, ↓WD, W0, evalOp, Nat.reduceEqDiff, Nat.reduceLT, ↓reduceIte, reduceCtorEq, hl, e0, e1, e6, e18, e19, e20, ol88, og90, ol91, og93]
              refine ⟨rfl, ?_, ?_, ?_, ?_, ?_, ?_, ?_⟩ <;> simp only [List.length_set, W0, Nat.reduceEqDiff, Nat.reduceLT, ↓reduceIte, hl, e0, e1, e6, e18, e19, e20]) ?_
            rintro envg94 _ ⟨rfl, hl, e0, e1, e18, e19, e20, e28⟩
            try simp only [↓WD, W0, evalOp, Nat.reduceEqDiff, Nat.reduceLT, ↓reduceIte, reduceCtorEq, hl, e0, e1, e18, e19, e20, e28]
            refine CondK_boo (fun c97 => ?_) (fun c97 => ?_)
            · rw [if_pos c97] at wr100
              try simp only [↓WD, W0, evalOp, Nat.reduceEqDiff, Nat.reduceLT, ↓reduceIte, reduceCtorEq, hl, e0, e1, e18, e19, e20, e28]
              rw [AW_region]
              refine AE_joinR (fun e h' => h83 = h' ∧ e.length = 65 ∧ e.getD 4 .undef = .bool false) (by
                simp only [↓WE, WA, WL, aop, ofValue, ofCell, isConst, abin, acall1, abuiltin, aun, AV.cells, AV.one, Nat.reduceAdd, Int.reduceLT, Int.reduceLE, ↓WD, W0, evalOp, Nat.reduceEqDiff, Nat.reduceLT, ↓reduceIte, reduceCtorEq, hl, e0, e1, e18, e19, e20, e28]
                refine ⟨rfl, ?_, ?_⟩ <;> simp only [List.length_set, W0, Nat.reduceEqDiff, Nat.reduceLT, ↓reduceIte, hl, e0, e1, e18, e19, e20, e28]) ?_
              rintro envg98 _ ⟨rfl, hl, e4⟩
              try simp only [↓WD, W0, evalOp, Nat.reduceEqDiff, Nat.reduceLT, ↓reduceIte, reduceCtorEq, hl, e4]
              obtain rfl := Option.some.inj wr100
              rw [KP_nil, QL_ret]
              refine ⟨_, rfl, .inr (⟨_, rfl, rfl, ?_, ?_, S86.pick [] (by decide) rfl⟩)⟩ <;> simp only [List.length_set, W0, Nat.reduceEqDiff, Nat.reduceLT, ↓reduceIte, hl, e4]
            · rw [if_neg (nf c97)] at wr100
              try simp only [↓WD, W0, evalOp, Nat.reduceEqDiff, Nat.reduceLT, ↓reduceIte, reduceCtorEq, hl, e0, e1, e18, e19, e20, e28]
              rw [AW_region]
              refine AE_joinR (fun e h' => h83 = h' ∧ e.length = 65 ∧ e.getD 0 .undef = ut ∧ e.getD 1 .undef = .str dir ∧ e.getD 18 .undef = ut ∧ e.getD 19 .undef = .int .i64 (t.length : Int) ∧ e.getD 20 .undef = .int .i64 (IntKind.i64.wrap (s + 1))) (by
                simp only [↓WE, WA, WL, aop, ofValue, ofCell, isConst, abin, acall1, abuiltin, aun, AV.cells, AV.one, Nat.reduceAdd, Int.reduceLT, Int.reduceLE, ↓WD, W0, evalOp, Nat.reduceEqDiff, Nat.reduceLT, ↓reduceIte, reduceCtorEq, hl, e0, e1, e18, e19, e20, e28]
                refine ⟨rfl, ?_, ?_, ?_, ?_, ?_, ?_⟩ <;> simp only [List.length_set, W0, Nat.reduceEqDiff, Nat.reduceLT, ↓reduceIte, hl, e0, e1, e18, e19, e20, e28]) ?_
              rintro envg99 _ ⟨rfl, hl, e0, e1, e18, e19, e20⟩
              try simp only [↓WD, W0, evalOp, Nat.reduceEqDiff, Nat.reduceLT, ↓reduceIte, reduceCtorEq, hl, e0, e1, e18, e19, e20]
              obtain rfl := Option.some.inj wr100
              rw [KP_nil, QL_normal]
              refine ⟨_, rfl, ?_, ?_, ?_, ?_, ?_, ?_, S86.pick [] (by decide) rfl⟩ <;> simp only [List.length_set, W0, Nat.reduceEqDiff, Nat.reduceLT, ↓reduceIte, hl, e0, e1, e18, e19, e20]
          · rw [if_neg c70] at wr100
            try simp only [↓WD, W0, evalOp, Nat.reduceEqDiff, Nat.reduceLT, ↓reduceIte, reduceCtorEq, hl, e0, e1, e18, e19, e20, e21]
            obtain rfl := Option.some.inj wr100
            rw [KP_nil, QL_exit]
            refine ⟨_, rfl, .inl ⟨_, rfl, rfl, ?_, ?_, ?_, S67⟩⟩ <;> simp only [List.length_set, W0, Nat.reduceEqDiff, Nat.reduceLT, ↓reduceIte, hl, e0, e1, e18, e19, e20, e21]
        · refine ⟨?_, ?_, ?_, ?_, ?_, ?_, S24⟩ <;> simp only [List.length_set, W0, Nat.reduceEqDiff, Nat.reduceLT, ↓reduceIte, hl, e0, e1, e18, e19, e20]
        · intro x envr100 h102 hk
          rcases hk with ⟨t101, rfl, rfl, hl, e0, e1, S103⟩ | ⟨t104, rfl, rfl, hl, e4, S106⟩
          · skip
            rw [sumK_inl] at hF
            try simp only [↓WD, W0, evalOp, Nat.reduceEqDiff, Nat.reduceLT, ↓reduceIte, reduceCtorEq, hl, e0, e1]
            rw [AW_region]
            obtain ⟨y107, qy107, hF⟩ := obind hF
            have og108 := fun (D : Drawn) (n : Nat) (g : AH) => call_hook (P := Try.prog) (D := D) k15 n (args := [.str [120]]) (v := .str y107) ((kf_15_eq [120]).trans (by rw [qy107]; rfl)) g
            refine AE_joinR (fun e h' => h102 = h' ∧ e.length = 65 ∧ e.getD 0 .undef = ut ∧ e.getD 1 .undef = .str dir ∧ e.getD 7 .undef = .str y107) (by
              simp only [↓WE, WA, WL, aop, ofValue, ofCell, isConst, abin, acall1, abuiltin, aun, AV.cells, AV.one, Nat.reduceAdd, Int.reduceLT, Int.reduceLE, ↓WD, W0, evalOp, Nat.reduceEqDiff, Nat.reduceLT, ↓reduceIte, reduceCtorEq, hl, e0, e1, og108]
              refine ⟨rfl, ?_, ?_, ?_, ?_⟩ <;> simp only [List.length_set, W0, Nat.reduceEqDiff, Nat.reduceLT, ↓reduceIte, hl, e0, e1]) ?_
            rintro envg109 _ ⟨rfl, hl, e0, e1, e7⟩
            try simp only [↓WD, W0, evalOp, Nat.reduceEqDiff, Nat.reduceLT, ↓reduceIte, reduceCtorEq, hl, e0, e1, e7]
            rw [AW_region]
            have ol110 := RO.len (P := Try.prog) sl_67 (S103.ro hut)
            rw [List.length_map] at ol110
            refine AE_joinR (fun e h' => h102 = h' ∧ e.length = 65 ∧ e.getD 0 .undef = ut ∧ e.getD 1 .undef = .str dir ∧ e.getD 7 .undef = .str y107 ∧ e.getD 33 .undef = .bool (decide ((t.length : Int) > 0))) (by
              simp only [↓WE, WA, WL, aop, ofValue, ofCell, isConst, abin, acall1, abuiltin, aun, AV.cells, AV.one, Nat.reduceAdd, Int.reduceLT, Int.reduceLE, ↓WD, W0, evalOp, Nat.reduceEqDiff, Nat.reduceLT, ↓reduceIte, reduceCtorEq, hl, e0, e1, e7, ol110]
              refine ⟨rfl, ?_, ?_, ?_, ?_, ?_⟩ <;> simp only [List.length_set, W0, Nat.reduceEqDiff, Nat.reduceLT, ↓reduceIte, hl, e0, e1, e7]) ?_
            rintro envg111 _ ⟨rfl, hl, e0, e1, e7, e33⟩
            try simp only [↓WD, W0, evalOp, Nat.reduceEqDiff, Nat.reduceLT, ↓reduceIte, reduceCtorEq, hl, e0, e1, e7, e33]
            obtain ⟨j124, qj124, hF⟩ := obind hF
            refine CondK_join (fun e h' => e.length = 65 ∧ e.getD 0 .undef = ut ∧ e.getD 1 .undef = .str dir ∧ e.getD 7 .undef = .str j124 ∧ Sep h [] h' []) ?_ ?_
            · refine CondK_dec (fun c112 => ?_) (fun c112 => ?_)
              · rw [if_pos c112] at qj124
                try simp only [↓WD, W0, evalOp, Nat.reduceEqDiff, Nat.reduceLT, ↓reduceIte, reduceCtorEq, hl, e0, e1, e7, e33]
                rw [AW_region]
                have ol113 := RO.len (P := Try.prog) sl_67 (S103.ro hut)
                rw [List.length_map] at ol113
                obtain ⟨y114, qy114, qj124⟩ := obind qj124
                have oy114 := quo_int (k := .i64) qy114
                obtain ⟨x115, qx115, qj124⟩ := obind qj124
                obtain ⟨i116, off117, oi118, hp119⟩ := RO.addr (P := Try.prog) sl_67 (S103.ro hut) qx115
                have ol120 := RO.ld (P := Try.prog) (S103.ro hut) hp119 qx115 (t := 9) (o := 2) (v := .str x115.xData) (by omega) (by simp only [apart, ag_9, sz_9]; rfl)
                obtain ⟨y121, qy121, qj124⟩ := obind qj124
                have og122 := fun (D : Drawn) (n : Nat) (g : AH) => call_hook (P := Try.prog) (D := D) k15 n (args := [.str x115.xData]) (v := .str y121) ((kf_15_eq x115.xData).trans (by rw [qy121]; rfl)) g
                refine AE_joinR (fun e h' => h102 = h' ∧ e.length = 65 ∧ e.getD 0 .undef = ut ∧ e.getD 1 .undef = .str dir ∧ e.getD 7 .undef = .str y121) (by
                  simp only [↓WE, WA, WL, aop, ofValue, ofCell, isConst, abin, acall1, abuiltin, aun, AV.cells, AV.one, Nat.reduceAdd, Int.reduceLT, Int.reduceLE, ↓WD, W0, evalOp, Nat.reduceEqDiff, Nat.reduceLT, ↓reduceIte, reduceCtorEq, hl, e0, e1, e7, e33, ol113, oy114, oi118, fa_75_2, ol120, og122]
                  refine ⟨rfl, ?_, ?_, ?_, ?_⟩ <;> simp only [List.length_set, W0, Nat.reduceEqDiff, Nat.reduceLT, ↓reduceIte, hl, e0, e1, e7, e33]) ?_
                rintro envg123 _ ⟨rfl, hl, e0, e1, e7⟩
                try simp only [↓WD, W0, evalOp, Nat.reduceEqDiff, Nat.reduceLT, ↓reduceIte, reduceCtorEq, hl, e0, e1, e7]
                rw [KP_nil, KJ_normal]
                obtain rfl := Option.some.inj qj124
                refine ⟨?_, ?_, ?_, ?_, S103⟩ <;> simp only [List.length_set, W0, Nat.reduceEqDiff, Nat.reduceLT, ↓reduceIte, hl, e0, e1, e7]
              · rw [if_neg c112] at qj124
                try simp only [↓WD, W0, evalOp, Nat.reduceEqDiff, Nat.reduceLT, ↓reduceIte, reduceCtorEq, hl, e0, e1, e7, e33]
                rw [KP_nil, KJ_normal]
                obtain rfl := Option.some.inj qj124
                refine ⟨?_, ?_, ?_, ?_, S103⟩ <;> simp only [List.length_set, W0, Nat.reduceEqDiff, Nat.reduceLT, ↓reduceIte, hl, e0, e1, e7, e33]
            · rintro envj124 h126 ⟨hl, e0, e1, e7, S125⟩
              try simp only [↓WD, W0, evalOp, Nat.reduceEqDiff, Nat.reduceLT, ↓reduceIte, reduceCtorEq, hl, e0, e1, e7]
              rw [AW_region]
              obtain ⟨j179, qj179, hF⟩ := obind hF
              refine AE_joinR (fun e h' => e.length = 65 ∧ e.getD 4 .undef = .bool j179 ∧ Sep h [] h' []) ?_ ?_
              · obtain ⟨y127, qy127, qj179⟩ := obind qj179
                obtain ⟨v131, h129, og128, rfl, S130⟩ := (W_digest_Tree k16 k90 k116 k128 n66 n67 n68 n91 n106 n118 n51 m (by omega) h126 ut t (S125.ro hut) qy127).out
                have S132 : Sep h [] h129 [] := S125.call0 S130
                obtain ⟨y133, qy133, qj179⟩ := obind qj179
                obtain ⟨v137, h135, og134, rfl, S136⟩ := (W_ref39_Tree k15 k50 n93 n52 m (by omega) h129 ut t (S132.ro hut) qy133).out
                have S138 : Sep h [] h135 [] := S132.call0 S136
                simp only [↓WE, WA, WL, aop, ofValue, ofCell, isConst, abin, acall1, abuiltin, aun, AV.cells, AV.one, Nat.reduceAdd, Int.reduceLT, Int.reduceLE, ↓WD, W0, evalOp, Nat.reduceEqDiff, Nat.reduceLT, ↓reduceIte, reduceCtorEq, hl, e0, e1, e7, og128, og134]
                refine GuardW_boo (fun c139 => ?_) (fun c139 => ?_)
                · rw [if_pos c139] at qj179
                  have d140 := c139
                  obtain ⟨y142, qy142, qj179⟩ := obind qj179
                  obtain ⟨v146, h144, og143, rfl, S145⟩ := (W_digest_Under k16 k90 k95 k116 k128 n51 n66 n67 n68 n91 n106 n118 n53 m (by omega) h135 ut t (S138.ro hut) dir qy142).out
                  have S147 : Sep h [] h144 [] := S138.call0 S145
                  obtain ⟨y148, qy148, qj179⟩ := obind qj179
                  obtain ⟨v152, h150, og149, rfl, S151⟩ := (W_ref39_Under k15 k50 k96 n52 n93 n54 m (by omega) h144 ut t (S147.ro hut) dir qy148).out
                  have S153 : Sep h [] h150 [] := S147.call0 S151
                  simp only [↓WE, WA, WL, aop, ofValue, ofCell, isConst, abin, acall1, abuiltin, aun, AV.cells, AV.one, Nat.reduceAdd, Int.reduceLT, Int.reduceLE, ↓WD, W0, evalOp, Nat.reduceEqDiff, Nat.reduceLT, ↓reduceIte, reduceCtorEq, hl, e0, e1, e7, og128, og134, og143, og149, d140]
                  refine GuardW_boo (fun c154 => ?_) (fun c154 => ?_)
                  · rw [if_pos c154] at qj179
                    have d155 := c154
                    obtain ⟨y157, qy157, qj179⟩ := obind qj179
                    obtain ⟨u161, h159, og158, _, rfl, S160⟩ := (W_digest_Find k16 n56 m (by omega) h150 ut t (S153.ro hut) j124 qy157).out
                    have S164 : Sep h [] h159 [.row u161 9 1 (y157.map cellS)] := S153.call0 S160
                    obtain ⟨y165, qy165, qj179⟩ := obind qj179
                    obtain ⟨u169, h167, og166, _, rfl, S168⟩ := (W_ref39_Find k15 n57 m (by omega) h159 ut t (S164.ro hut) j124 qy165).out
                    have S172 : Sep h [] h167 [.row u161 9 1 (y157.map cellS), .row u169 9 1 (y165.map cellS)] := S164.call0 S168
                    obtain ⟨y173, qy173, qj179⟩ := obind qj179
                    obtain ⟨v177, h175, og174, rfl, S176⟩ := (W_ref23_Texts n55 m (by omega) h167 u161 y157 (S172.row_ro (i := 0) rfl) u169 y165 (S172.row_ro (i := 1) rfl) qy173).out
                    have S178 : Sep h [] h175 [.row u161 9 1 (y157.map cellS), .row u169 9 1 (y165.map cellS)] := S172.call0 S176
                    simp only [↓WE, WA, WL, aop, ofValue, ofCell, isConst, abin, acall1, abuiltin, aun, AV.cells, AV.one, Nat.reduceAdd, Int.reduceLT, Int.reduceLE, ↓WD, W0, evalOp, Nat.reduceEqDiff, Nat.reduceLT, ↓reduceIte, reduceCtorEq, hl, e0, e1, e7, og128, og134, og143, og149, og158, og166, og174, d140, d155]
                    obtain rfl := Option.some.inj qj179
                    refine ⟨?_, ?_, S178.pick [] (by decide) rfl⟩ <;> simp only [List.length_set, W0, Nat.reduceEqDiff, Nat.reduceLT, ↓reduceIte, hl, e0, e1, e7]
                  · rw [if_neg (nf c154)] at qj179
                    have d156 := c154
                    simp only [↓WE, WA, WL, aop, ofValue, ofCell, isConst, abin, acall1, abuiltin, aun, AV.cells, AV.one, Nat.reduceAdd, Int.reduceLT, Int.reduceLE, ↓WD, W0, evalOp, Nat.reduceEqDiff, Nat.reduceLT, ↓reduceIte, reduceCtorEq, hl, e0, e1, e7, og128, og134, og143, og149, d140, d156]
                    obtain rfl := Option.some.inj qj179
                    refine ⟨?_, ?_, S153⟩ <;> simp only [List.length_set, W0, Nat.reduceEqDiff, Nat.reduceLT, ↓reduceIte, hl, e0, e1, e7]
                · rw [if_neg (nf c139)] at qj179
                  have d141 := c139
                  simp only [↓WE, WA, WL, aop, ofValue, ofCell, isConst, abin, acall1, abuiltin, aun, AV.cells, AV.one, Nat.reduceAdd, Int.reduceLT, Int.reduceLE, ↓WD, W0, evalOp, Nat.reduceEqDiff, Nat.reduceLT, ↓reduceIte, reduceCtorEq, hl, e0, e1, e7, og128, og134, d141]
                  obtain rfl := Option.some.inj qj179
                  refine ⟨?_, ?_, S138⟩ <;> simp only [List.length_set, W0, Nat.reduceEqDiff, Nat.reduceLT, ↓reduceIte, hl, e0, e1, e7]
              · rintro envj179 h181 ⟨hl, e4, S180⟩
                try simp only [↓WD, W0, evalOp, Nat.reduceEqDiff, Nat.reduceLT, ↓reduceIte, reduceCtorEq, hl, e4]
                refine KP_ret (vs := [.bool j179]) (by simp only [aresults, aresult, gs, List.length_set, Nat.reduceEqDiff, Nat.reduceLT, ↓reduceIte, hl, e4]) ?_
                obtain rfl := Option.some.inj hF
                exact ⟨rfl, S180⟩
          · skip
            rw [sumK_inr] at hF
            try simp only [↓WD, W0, evalOp, Nat.reduceEqDiff, Nat.reduceLT, ↓reduceIte, reduceCtorEq, hl, e4]
            refine KP_ret (vs := [.bool false]) (by simp only [aresults, aresult, gs, List.length_set, Nat.reduceEqDiff, Nat.reduceLT, ↓reduceIte, hl, e4]) ?_
            obtain rfl := Option.some.inj hF
            exact ⟨rfl, S106⟩
theorem W_law39_DigestMoved {K : PureK} (k15 : K 15 = some kf_15) (k16 : K 16 = some kf_16) (k49 : K 49 = some kf_49) (k90 : K 90 = some kf_90) (k95 : K 95 = some kf_95) (k116 : K 116 = some kf_116) (k128 : K 128 = some hb77) (n44 : K 44 = none) (n46 : K 46 = none) (n48 : K 48 = none) (n51 : K 51 = none) (n53 : K 53 = none) (n56 : K 56 = none) (n66 : K 66 = none) (n67 : K 67 = none) (n68 : K 68 = none) (n91 : K 91 = none) (n92 : K 92 = none) (n106 : K 106 = none) (n118 : K 118 = none) (n13 : K 13 = none) (m : Nat) (hm : NF + 8 ≤ m) (h : AH) (ut : AV) (t : List Gapi_Node) (hut : RO 5 ut h (t.map Gapi_Node.cells)) (dir : List UInt8) {r : Bool} (hF : F_law39_DigestMoved t dir = some r) :
    AR (acall Try.prog (hooksOf K) (drawnOf Try.prog (tabOf K)) m 13 [ut, .str dir] h) (fun v h' => v = .bool r ∧ Sep h [] h' []) := by
  obtain ⟨m, rfl⟩ : ∃ k, m = k + 1 := ⟨m - 1, by omega⟩
  refine AR_call (hooksOf_none n13) Try.func13 rfl _ _ fun env hl he => ?_
  have e0 := he 0
  have e1 := he 1
  simp only [List.getD_cons_zero, List.getD_cons_succ] at e0 e1
  simp only [Try.f13] at hl ⊢
  simp only [List.length_cons, List.length_nil, Nat.reduceAdd, Nat.reduceSub] at hl
  clear he
  have S0 : Sep h [] h [] := Sep.nil h
  rw [F_law39_DigestMoved] at hF
  try simp only [↓WD, W0, evalOp, Nat.reduceEqDiff, Nat.reduceLT, ↓reduceIte, reduceCtorEq, hl, e0, e1]
  rw [AW_region]
  refine AE_joinR (fun e h' => h = h' ∧ e.length = 56 ∧ e.getD 0 .undef = ut ∧ e.getD 1 .undef = .str dir) (by
    simp only [↓WE, WA, WL, aop, ofValue, ofCell, isConst, abin, acall1, abuiltin, aun, AV.cells, AV.one, Nat.reduceAdd, Int.reduceLT, Int.reduceLE, ↓WD, W0, evalOp, Nat.reduceEqDiff, Nat.reduceLT, ↓reduceIte, reduceCtorEq, hl, e0, e1]
    refine ⟨rfl, ?_, ?_, ?_⟩ <;> simp only [List.length_set, W0, Nat.reduceEqDiff, Nat.reduceLT, ↓reduceIte, hl, e0, e1]) ?_
  rintro envg1 _ ⟨rfl, hl, e0, e1⟩
  try simp only [↓WD, W0, evalOp, Nat.reduceEqDiff, Nat.reduceLT, ↓reduceIte, reduceCtorEq, hl, e0, e1]
  rw [AW_region]
  obtain ⟨y2, qy2, hF⟩ := obind hF
  obtain ⟨v6, h4, og3, rfl, S5⟩ := (W_law39_awake k15 k16 k49 k90 k116 k128 n46 n51 n56 n66 n67 n68 n91 n92 n106 n118 n44 m (by omega) h  qy2).out
  have S7 : Sep h [] h4 [] := S0.call0 S5
  refine AE_joinR (fun e h' => h4 = h' ∧ e.length = 56 ∧ e.getD 0 .undef = ut ∧ e.getD 1 .undef = .str dir ∧ e.getD 9 .undef = .bool !y2) (by
    simp only [↓WE, WA, WL, aop, ofValue, ofCell, isConst, abin, acall1, abuiltin, aun, AV.cells, AV.one, Nat.reduceAdd, Int.reduceLT, Int.reduceLE, ↓WD, W0, evalOp, Nat.reduceEqDiff, Nat.reduceLT, ↓reduceIte, reduceCtorEq, hl, e0, e1, og3]
    refine ⟨rfl, ?_, ?_, ?_, ?_⟩ <;> simp only [List.length_set, W0, Nat.reduceEqDiff, Nat.reduceLT, ↓reduceIte, hl, e0, e1]) ?_
  rintro envg8 _ ⟨rfl, hl, e0, e1, e9⟩
  try simp only [↓WD, W0, evalOp, Nat.reduceEqDiff, Nat.reduceLT, ↓reduceIte, reduceCtorEq, hl, e0, e1, e9]
  refine CondK_boo (fun c11 => ?_) (fun c11 => ?_)
  · rw [if_pos c11] at hF
    try simp only [↓WD, W0, evalOp, Nat.reduceEqDiff, Nat.reduceLT, ↓reduceIte, reduceCtorEq, hl, e0, e1, e9]
    rw [AW_region]
    refine AE_joinR (fun e h' => h4 = h' ∧ e.length = 56 ∧ e.getD 4 .undef = .bool false) (by
      simp only [↓WE, WA, WL, aop, ofValue, ofCell, isConst, abin, acall1, abuiltin, aun, AV.cells, AV.one, Nat.reduceAdd, Int.reduceLT, Int.reduceLE, ↓WD, W0, evalOp, Nat.reduceEqDiff, Nat.reduceLT, ↓reduceIte, reduceCtorEq, hl, e0, e1, e9]
      refine ⟨rfl, ?_, ?_⟩ <;> simp only [List.length_set, W0, Nat.reduceEqDiff, Nat.reduceLT, ↓reduceIte, hl, e0, e1, e9]) ?_
    rintro envg12 _ ⟨rfl, hl, e4⟩
    try simp only [↓WD, W0, evalOp, Nat.reduceEqDiff, Nat.reduceLT, ↓reduceIte, reduceCtorEq, hl, e4]
    refine KP_ret (vs := [.bool false]) (by simp only [aresults, aresult, gs, List.length_set, Nat.reduceEqDiff, Nat.reduceLT, ↓reduceIte, hl, e4]) ?_
    obtain rfl := Option.some.inj hF
    exact ⟨rfl, S7⟩
  · rw [if_neg (nf c11)] at hF
    try simp only [↓WD, W0, evalOp, Nat.reduceEqDiff, Nat.reduceLT, ↓reduceIte, reduceCtorEq, hl, e0, e1, e9]
    rw [AW_region]
    obtain ⟨j31, qj31, hF⟩ := obind hF
    refine AE_joinR (fun e h' => e.length = 56 ∧ e.getD 0 .undef = ut ∧ e.getD 1 .undef = .str dir ∧ e.getD 29 .undef = .bool j31 ∧ Sep h [] h' []) ?_ ?_
    · obtain ⟨y13, qy13, qj31⟩ := obind qj31
      obtain ⟨v17, h15, og14, rfl, S16⟩ := (W_law24_Few n48 m (by omega) h4 ut t (S7.ro hut) 8 qy13).out
      have S18 : Sep h [] h15 [] := S7.call0 S16
      simp only [↓WE, WA, WL, aop, ofValue, ofCell, isConst, abin, acall1, abuiltin, aun, AV.cells, AV.one, Nat.reduceAdd, Int.reduceLT, Int.reduceLE, ↓WD, W0, evalOp, Nat.reduceEqDiff, Nat.reduceLT, ↓reduceIte, reduceCtorEq, hl, e0, e1, e9, og14]
      refine GuardW_boo (fun c19 => ?_) (fun c19 => ?_)
      · rw [if_pos c19] at qj31
        have d20 := c19
        simp only [↓WE, WA, WL, aop, ofValue, ofCell, isConst, abin, acall1, abuiltin, aun, AV.cells, AV.one, Nat.reduceAdd, Int.reduceLT, Int.reduceLE, ↓WD, W0, evalOp, Nat.reduceEqDiff, Nat.reduceLT, ↓reduceIte, reduceCtorEq, hl, e0, e1, e9, og14, d20]
        obtain rfl := Option.some.inj qj31
        refine ⟨?_, ?_, ?_, ?_, S18⟩ <;> simp only [List.length_set, W0, Nat.reduceEqDiff, Nat.reduceLT, ↓reduceIte, hl, e0, e1, e9]
      · rw [if_neg (nf c19)] at qj31
        have d21 := c19
        have ol22 := fun g : AH => alen_str (P := Try.prog) (h := g) (l := dir) Try.underlying9
        simp only [↓WE, WA, WL, aop, ofValue, ofCell, isConst, abin, acall1, abuiltin, aun, AV.cells, AV.one, Nat.reduceAdd, Int.reduceLT, Int.reduceLE, ↓WD, W0, evalOp, Nat.reduceEqDiff, Nat.reduceLT, ↓reduceIte, reduceCtorEq, hl, e0, e1, e9, og14, ol22, d21]
        refine GuardW_dec (fun c23 => ?_) (fun c23 => ?_)
        · rw [if_pos c23] at qj31
          have d24 : (decide ((dir.length : Int) > 20)) = true := decide_eq_true c23
          simp only [↓WE, WA, WL, aop, ofValue, ofCell, isConst, abin, acall1, abuiltin, aun, AV.cells, AV.one, Nat.reduceAdd, Int.reduceLT, Int.reduceLE, ↓WD, W0, evalOp, Nat.reduceEqDiff, Nat.reduceLT, ↓reduceIte, reduceCtorEq, hl, e0, e1, e9, og14, ol22, d21, d24]
          obtain rfl := Option.some.inj qj31
          refine ⟨?_, ?_, ?_, ?_, S18⟩ <;> simp only [List.length_set, W0, Nat.reduceEqDiff, Nat.reduceLT, ↓reduceIte, hl, e0, e1, e9]
        · rw [if_neg c23] at qj31
          have d25 : (decide ((dir.length : Int) > 20)) = false := decide_eq_false c23
          simp only [↓WE, WA, WL, aop, ofValue, ofCell, isConst, abin, acall1, abuiltin, aun, AV.cells, AV.one, Nat.reduceAdd, Int.reduceLT, Int.reduceLE, ↓WD, W0, evalOp, Nat.reduceEqDiff, Nat.reduceLT, ↓reduceIte, reduceCtorEq, hl, e0, e1, e9, og14, ol22, d21, d25]
          refine GuardW_boo (fun c26 => ?_) (fun c26 => ?_)
          · rw [if_pos c26] at qj31
            have d27 := c26
            simp only [↓WE, WA, WL, aop, ofValue, ofCell, isConst, abin, acall1, abuiltin, aun, AV.cells, AV.one, Nat.reduceAdd, Int.reduceLT, Int.reduceLE, ↓WD, W0, evalOp, Nat.reduceEqDiff, Nat.reduceLT, ↓reduceIte, reduceCtorEq, hl, e0, e1, e9, og14, ol22, d21, d25, d27]
            obtain rfl := Option.some.inj qj31
            refine ⟨?_, ?_, ?_, ?_, S18⟩ <;> simp only [List.length_set, W0, Nat.reduceEqDiff, Nat.reduceLT, ↓reduceIte, hl, e0, e1, e9]
          · rw [if_neg (nf c26)] at qj31
            have d28 := c26
            have ol29 := fun g : AH => alen_str (P := Try.prog) (h := g) (l := dir) Try.underlying9
            obtain ⟨c30, qc30, qj31⟩ := obind qj31
            have oc30 := idx_str (P := Try.prog) (k := .i64) Try.underlying9 qc30
            simp only [↓WE, WA, WL, aop, ofValue, ofCell, isConst, abin, acall1, abuiltin, aun, AV.cells, AV.one, Nat.reduceAdd, Int.reduceLT, Int.reduceLE, ↓WD, W0, evalOp, Nat.reduceEqDiff, Nat.reduceLT, ↓reduceIte, reduceCtorEq, hl, e0, e1, e9, og14, ol22, ol29, oc30, d21, d25, d28]
            obtain rfl := Option.some.inj qj31
            refine ⟨?_, ?_, ?_, ?_, S18⟩ <;> simp only [List.length_set, W0, Nat.reduceEqDiff, Nat.reduceLT, ↓reduceIte, hl, e0, e1, e9]
    · rintro envj31 h33 ⟨hl, e0, e1, e29, S32⟩
      try simp only [↓WD, W0, evalOp, Nat.reduceEqDiff, Nat.reduceLT, ↓reduceIte, reduceCtorEq, hl, e0, e1, e29]
      refine CondK_boo (fun c36 => ?_) (fun c36 => ?_)
      · rw [if_pos c36] at hF
        try simp only [↓WD, W0, evalOp, Nat.reduceEqDiff, Nat.reduceLT, ↓reduceIte, reduceCtorEq, hl, e0, e1, e29]
        rw [AW_region]
        refine AE_joinR (fun e h' => h33 = h' ∧ e.length = 56 ∧ e.getD 4 .undef = .bool true) (by
          simp only [↓WE, WA, WL, aop, ofValue, ofCell, isConst, abin, acall1, abuiltin, aun, AV.cells, AV.one, Nat.reduceAdd, Int.reduceLT, Int.reduceLE, ↓WD, W0, evalOp, Nat.reduceEqDiff, Nat.reduceLT, ↓reduceIte, reduceCtorEq, hl, e0, e1, e29]
          refine ⟨rfl, ?_, ?_⟩ <;> simp only [List.length_set, W0, Nat.reduceEqDiff, Nat.reduceLT, ↓reduceIte, hl, e0, e1, e29]) ?_
        rintro envg37 _ ⟨rfl, hl, e4⟩
        try simp only [↓WD, W0, evalOp, Nat.reduceEqDiff, Nat.reduceLT, ↓reduceIte, reduceCtorEq, hl, e4]
        refine KP_ret (vs := [.bool true]) (by simp only [aresults, aresult, gs, List.length_set, Nat.reduceEqDiff, Nat.reduceLT, ↓reduceIte, hl, e4]) ?_
        obtain rfl := Option.some.inj hF
        exact ⟨rfl, S32⟩
      · rw [if_neg (nf c36)] at hF
        try simp only [↓WD, W0, evalOp, Nat.reduceEqDiff, Nat.reduceLT, ↓reduceIte, reduceCtorEq, hl, e0, e1, e29]
        rw [AW_region]
        refine AE_joinR (fun e h' => h33 = h' ∧ e.length = 56 ∧ e.getD 0 .undef = ut ∧ e.getD 1 .undef = .str dir ∧ e.getD 5 .undef = .val (.slice none 0 0)) (by
          simp only [↓WE, WA, WL, aop, ofValue, ofCell, isConst, abin, acall1, abuiltin, aun, AV.cells, AV.one, Nat.reduceAdd, Int.reduceLT, Int.reduceLE, ↓WD, W0, evalOp, Nat.reduceEqDiff, Nat.reduceLT, ↓reduceIte, reduceCtorEq, hl, e0, e1, e29]
          refine ⟨rfl, ?_, ?_, ?_, ?_⟩ <;> simp only [List.length_set, W0, Nat.reduceEqDiff, Nat.reduceLT, ↓reduceIte, hl, e0, e1, e29]) ?_
        rintro envg38 _ ⟨rfl, hl, e0, e1, e5⟩
        try simp only [↓WD, W0, evalOp, Nat.reduceEqDiff, Nat.reduceLT, ↓reduceIte, reduceCtorEq, hl, e0, e1, e5]
        rw [AW_region]
        have ol39 := RO.len (P := Try.prog) sl_67 (S32.ro hut)
        rw [List.length_map] at ol39
        refine AE_joinR (fun e h' => h33 = h' ∧ e.length = 56 ∧ e.getD 0 .undef = ut ∧ e.getD 1 .undef = .str dir ∧ e.getD 5 .undef = .val (.slice none 0 0) ∧ e.getD 30 .undef = ut ∧ e.getD 31 .undef = .int .i64 (t.length : Int) ∧ e.getD 32 .undef = .int .i64 0) (by
          simp only [↓WE, WA, WL, aop, ofValue, ofCell, isConst, abin, acall1, abuiltin, aun, AV.cells, AV.one, Nat.reduceAdd, Int.reduceLT, Int.reduceLE, ↓WD, W0, evalOp, Nat.reduceEqDiff, Nat.reduceLT, ↓reduceIte, reduceCtorEq, hl, e0, e1, e5, ol39]
          refine ⟨rfl, ?_, ?_, ?_, ?_, ?_, ?_, ?_⟩ <;> simp only [List.length_set, W0, Nat.reduceEqDiff, Nat.reduceLT, ↓reduceIte, hl, e0, e1, e5]) ?_
        rintro envg40 _ ⟨rfl, hl, e0, e1, e5, e30, e31, e32⟩
        try simp only [↓WD, W0, evalOp, Nat.reduceEqDiff, Nat.reduceLT, ↓reduceIte, reduceCtorEq, hl, e0, e1, e5, e30, e31, e32]
        have S95 : Sep h [] h33 [.row (.val (.slice none 0 0)) 75 5 (([] : List Gapi_Node).map Gapi_Node.cells)] := S32.nilrow 75 5
        obtain ⟨r153, qr153, hF⟩ := obind hF
        refine AW_lift (L_law39_DigestMoved_1 t dir) (fun s e h' => ∃ (u99 : AV), e.length = 56 ∧ e.getD 0 .undef = ut ∧ e.getD 1 .undef = .str dir ∧ e.getD 5 .undef = u99 ∧ e.getD 30 .undef = ut ∧ e.getD 31 .undef = .int .i64 (t.length : Int) ∧ e.getD 32 .undef = .int .i64 s.2 ∧ Sep h [] h' [.row u99 75 5 (s.1.map Gapi_Node.cells)]) (fun r153 x e h' => (∃ (t154 : (List Gapi_Node)), ∃ (u155 : AV), r153 = (.inl t154) ∧ x = .exit 0 ∧ e.length = 56 ∧ e.getD 0 .undef = ut ∧ e.getD 1 .undef = .str dir ∧ e.getD 5 .undef = u155 ∧ Sep h [] h' [.row u155 75 5 (t154.map Gapi_Node.cells)]) ∨ (∃ (t158 : Unit), r153 = (.inr t158) ∧ x = .ret ∧ e.length = 56 ∧ e.getD 4 .undef = .bool true ∧ Sep h [] h' [])) qr153 (by omega) ?_ ?_ ?_
        · rintro s envr153 h100 or153 ⟨u99, hl, e0, e1, e5, e30, e31, e32, S101⟩ wr153
          rw [L_law39_DigestMoved_1] at wr153
          try simp only [↓WD, W0, evalOp, Nat.reduceEqDiff, Nat.reduceLT, ↓reduceIte, reduceCtorEq, hl, e0, e1, e5, e30, e31, e32]
          rw [AW_region]
          refine AE_joinR (fun e h' => h100 = h' ∧ e.length = 56 ∧ e.getD 0 .undef = ut ∧ e.getD 1 .undef = .str dir ∧ e.getD 5 .undef = u99 ∧ e.getD 30 .undef = ut ∧ e.getD 31 .undef = .int .i64 (t.length : Int) ∧ e.getD 32 .undef = .int .i64 s.2 ∧ e.getD 33 .undef = .bool (decide (s.2 < (t.length : Int)))) (by
            simp only [↓WE, WA, WL, aop, ofValue, ofCell, isConst, abin, acall1, abuiltin, aun, AV.cells, AV.one, Nat.reduceAdd, Int.reduceLT, Int.reduceLE, ↓WD, W0, evalOp, Nat.reduceEqDiff, Nat.reduceLT, ↓reduceIte, reduceCtorEq, hl, e0, e1, e5, e30, e31, e32]
            refine ⟨rfl, ?_, ?_, ?_, ?_, ?_, ?_, ?_, ?_⟩ <;> simp only [List.length_set, W0, Nat.reduceEqDiff, Nat.reduceLT, ↓reduceIte, hl, e0, e1, e5, e30, e31, e32]) ?_
          rintro envg102 _ ⟨rfl, hl, e0, e1, e5, e30, e31, e32, e33⟩
          try simp only [↓WD, W0, evalOp, Nat.reduceEqDiff, Nat.reduceLT, ↓reduceIte, reduceCtorEq, hl, e0, e1, e5, e30, e31, e32, e33]
          refine CondK_dec (fun c104 => ?_) (fun c104 => ?_)
          · rw [if_pos c104] at wr153
            try simp only [↓WD, W0, evalOp, Nat.reduceEqDiff, Nat.reduceLT, ↓reduceIte, reduceCtorEq, hl, e0, e1, e5, e30, e31, e32, e33]
            rw [AW_region]
            obtain ⟨x105, qx105, wr153⟩ := obind wr153
            obtain ⟨i106, off107, oi108, hp109⟩ := RO.addr (P := Try.prog) sl_67 (S101.ro hut) qx105
            have ol110 := RO.ld (P := Try.prog) (S101.ro hut) hp109 qx105 (t := 75) (o := 0) (v := .agg [.str x105.xPath, .bool x105.xDir, .str x105.xData, .int .i64 x105.xMode, .int .i64 x105.xTime]) (by omega) (by simp only [apart, ag_75, sz_75]; rfl)
            simp only [Nat.add_zero] at ol110
            obtain ⟨i111, h112, oa113, S114⟩ := S101.alloc 75 [.str [], .bool false, .str [], .int .i64 0, .int .i64 0]
            have S116 : Sep h [] h112 [.row u99 75 5 (s.1.map Gapi_Node.cells), .blk i111 [.str [], .bool false, .str [], .int .i64 0, .int .i64 0] 75] := S114
            obtain ⟨h117, os118, S119⟩ := S116.store (P := Try.prog) 1 rfl (t := 75) (off := 0) (v := .agg [.str x105.xPath, .bool x105.xDir, .str x105.xData, .int .i64 x105.xMode, .int .i64 x105.xTime]) (c' := [.str x105.xPath, .bool x105.xDir, .str x105.xData, .int .i64 x105.xMode, .int .i64 x105.xTime]) rfl sz_75 rfl (by simp) rfl
            have S120 : Sep h [] h117 [.row u99 75 5 (s.1.map Gapi_Node.cells), .blk i111 [.str x105.xPath, .bool x105.xDir, .str x105.xData, .int .i64 x105.xMode, .int .i64 x105.xTime] 75] := S119
            refine AE_joinR (fun e h' => h117 = h' ∧ e.length = 56 ∧ e.getD 0 .undef = ut ∧ e.getD 1 .undef = .str dir ∧ e.getD 5 .undef = u99 ∧ e.getD 7 .undef = .ptr i111 0 ∧ e.getD 30 .undef = ut ∧ e.getD 31 .undef = .int .i64 (t.length : Int) ∧ e.getD 32 .undef = .int .i64 s.2) (by
              simp only [↓WE, WA, WL, aop, ofValue, ofCell, isConst, abin, acall1, abuiltin, aun, AV.cells, AV.one, Nat.reduceAdd, Int.reduceLT, Int.reduceLE, ↓WD, W0, evalOp, Nat.reduceEqDiff, Nat.reduceLT, ↓reduceIte, reduceCtorEq, hl, e0, e1, e5, e30, e31, e32, e33, oi108, ol110, zero_75, oa113, os118]
              refine ⟨rfl, ?_, ?_, ?_, ?_, ?_, ?_, ?_, ?_⟩ <;> simp only [List.length_set, W0, Nat.reduceEqDiff, Nat.reduceLT, ↓reduceIte, hl, e0, e1, e5, e30, e31, e32, e33]) ?_
            rintro envg121 _ ⟨rfl, hl, e0, e1, e5, e7, e30, e31, e32⟩
            try simp only [↓WD, W0, evalOp, Nat.reduceEqDiff, Nat.reduceLT, ↓reduceIte, reduceCtorEq, hl, e0, e1, e5, e7, e30, e31, e32]
            rw [AW_region]
            have ol122 := S120.load (P := Try.prog) 1 rfl (t := 9) (off := 0) (v := .str x105.xPath) (by simp only [apart, ag_9, sz_9]; rfl)
            refine AE_joinR (fun e h' => h117 = h' ∧ e.length = 56 ∧ e.getD 0 .undef = ut ∧ e.getD 1 .undef = .str dir ∧ e.getD 5 .undef = u99 ∧ e.getD 7 .undef = .ptr i111 0 ∧ e.getD 30 .undef = ut ∧ e.getD 31 .undef = .int .i64 (t.length : Int) ∧ e.getD 32 .undef = .int .i64 s.2 ∧ e.getD 38 .undef = .bool (x105.xPath == [])) (by
              simp only [↓WE, WA, WL, aop, ofValue, ofCell, isConst, abin, acall1, abuiltin, aun, AV.cells, AV.one, Nat.reduceAdd, Int.reduceLT, Int.reduceLE, ↓WD, W0, evalOp, Nat.reduceEqDiff, Nat.reduceLT, ↓reduceIte, reduceCtorEq, hl, e0, e1, e5, e7, e30, e31, e32, fa_75_0, ol122]
              refine ⟨rfl, ?_, ?_, ?_, ?_, ?_, ?_, ?_, ?_, ?_⟩ <;> simp only [List.length_set, W0, Nat.reduceEqDiff, Nat.reduceLT, ↓reduceIte, hl, e0, e1, e5, e7, e30, e31, e32]) ?_
            rintro envg123 _ ⟨rfl, hl, e0, e1, e5, e7, e30, e31, e32, e38⟩
            try simp only [↓WD, W0, evalOp, Nat.reduceEqDiff, Nat.reduceLT, ↓reduceIte, reduceCtorEq, hl, e0, e1, e5, e7, e30, e31, e32, e38]
            refine CondK_boo (fun c126 => ?_) (fun c126 => ?_)
            · rw [if_pos c126] at wr153
              try simp only [↓WD, W0, evalOp, Nat.reduceEqDiff, Nat.reduceLT, ↓reduceIte, reduceCtorEq, hl, e0, e1, e5, e7, e30, e31, e32, e38]
              rw [AW_region]
              refine AE_joinR (fun e h' => h117 = h' ∧ e.length = 56 ∧ e.getD 4 .undef = .bool true) (by
                simp only [↓WE, WA, WL, aop, ofValue, ofCell, isConst, abin, acall1, abuiltin, aun, AV.cells, AV.one, Nat.reduceAdd, Int.reduceLT, Int.reduceLE, ↓WD, W0, evalOp, Nat.reduceEqDiff, Nat.reduceLT, ↓reduceIte, reduceCtorEq, hl, e0, e1, e5, e7, e30, e31, e32, e38]
                refine ⟨rfl, ?_, ?_⟩ <;> simp only [List.length_set, W0, Nat.reduceEqDiff, Nat.reduceLT, ↓reduceIte, hl, e0, e1, e5, e7, e30, e31, e32, e38]) ?_
              rintro envg127 _ ⟨rfl, hl, e4⟩
              try simp only [↓WD, W0, evalOp, Nat.reduceEqDiff, Nat.reduceLT, ↓reduceIte, reduceCtorEq, hl, e4]
              obtain rfl := Option.some.inj wr153
              rw [KP_nil, QL_ret]
              refine ⟨_, rfl, .inr (⟨_, rfl, rfl, ?_, ?_, S120.pick [] (by decide) rfl⟩)⟩ <;> simp only [List.length_set, W0, Nat.reduceEqDiff, Nat.reduceLT, ↓reduceIte, hl, e4]
            · rw [if_neg (nf c126)] at wr153
              try simp only [↓WD, W0, evalOp, Nat.reduceEqDiff, Nat.reduceLT, ↓reduceIte, reduceCtorEq, hl, e0, e1, e5, e7, e30, e31, e32, e38]
              rw [AW_region]
              obtain ⟨s128, qs128, wr153⟩ := obind wr153
              have os128 := cat_str qs128
              have ol129 := S120.load (P := Try.prog) 1 rfl (t := 9) (off := 0) (v := .str x105.xPath) (by simp only [apart, ag_9, sz_9]; rfl)
              obtain ⟨s130, qs130, wr153⟩ := obind wr153
              have os130 := cat_str qs130
              obtain ⟨h131, os132, S133⟩ := S120.store (P := Try.prog) 1 rfl (t := 9) (off := 0) (v := .str s130) (c' := [.str s130, .bool x105.xDir, .str x105.xData, .int .i64 x105.xMode, .int .i64 x105.xTime]) rfl sz_9 rfl (by simp) rfl
              have S134 : Sep h [] h131 [.row u99 75 5 (s.1.map Gapi_Node.cells), .blk i111 [.str s130, .bool x105.xDir, .str x105.xData, .int .i64 x105.xMode, .int .i64 x105.xTime] 75] := S133
              refine AE_joinR (fun e h' => h131 = h' ∧ e.length = 56 ∧ e.getD 0 .undef = ut ∧ e.getD 1 .undef = .str dir ∧ e.getD 5 .undef = u99 ∧ e.getD 7 .undef = .ptr i111 0 ∧ e.getD 30 .undef = ut ∧ e.getD 31 .undef = .int .i64 (t.length : Int) ∧ e.getD 32 .undef = .int .i64 s.2) (by
                simp only [↓WE, WA, WL, aop, ofValue, ofCell, isConst, abin, acall1, abuiltin, aun, AV.cells, AV.one, Nat.reduceAdd, Int.reduceLT, Int.reduceLE, ↓WD, W0, evalOp, Nat.reduceEqDiff, Nat.reduceLT, ↓reduceIte, reduceCtorEq, hl, e0, e1, e5, e7, e30, e31, e32, e38, os128, fa_75_0, ol129, os130, os132]
                refine ⟨rfl, ?_, ?_, ?_, ?_, ?_, ?_, ?_, ?_⟩ <;> simp only [List.length_set, W0, Nat.reduceEqDiff, Nat.reduceLT, ↓reduceIte, hl, e0, e1, e5, e7, e30, e31, e32, e38]) ?_
              rintro envg135 _ ⟨rfl, hl, e0, e1, e5, e7, e30, e31, e32⟩
              try simp only [↓WD, W0, evalOp, Nat.reduceEqDiff, Nat.reduceLT, ↓reduceIte, reduceCtorEq, hl, e0, e1, e5, e7, e30, e31, e32]
              rw [AW_region]
              have ol136 := S134.load (P := Try.prog) 1 rfl (t := 75) (off := 0) (v := .agg [.str s130, .bool x105.xDir, .str x105.xData, .int .i64 x105.xMode, .int .i64 x105.xTime]) (by simp only [apart, ag_75, sz_75]; rfl)
              obtain ⟨u137, h138, ob139, S140⟩ := Sep.build (P := Try.prog) sl_67 S134 [.agg [.str s130, .bool x105.xDir, .str x105.xData, .int .i64 x105.xMode, .int .i64 x105.xTime]] (([(⟨s130, x105.xDir, x105.xData, x105.xMode, x105.xTime⟩ : Gapi_Node)] : List Gapi_Node).map Gapi_Node.cells) rfl (by simp [Gapi_Node.cells]) (by simp)
              have ob139 : abuildSlice Try.prog 67 1 [(0, .agg [.str s130, .bool x105.xDir, .str x105.xData, .int .i64 x105.xMode, .int .i64 x105.xTime])] h131 = some (u137, h138) := ob139
              have S142 : Sep h [] h138 [.row u99 75 5 (s.1.map Gapi_Node.cells), .blk i111 [.str s130, .bool x105.xDir, .str x105.xData, .int .i64 x105.xMode, .int .i64 x105.xTime] 75, .row u137 75 5 (([(⟨s130, x105.xDir, x105.xData, x105.xMode, x105.xTime⟩ : Gapi_Node)] : List Gapi_Node).map Gapi_Node.cells)] := S140
              obtain ⟨zs143, qzs143, wr153⟩ := obind wr153
              obtain ⟨u144, h145, op146, S147⟩ := Sep.append (P := Try.prog) (t' := 67) sl_67 (by rw [Try.underlying67]; rfl) S142 0 rfl (S142.row_ro (i := 2) rfl) (fun _ => rfl) qzs143
              have S148 : Sep h [] h145 [.row u144 75 5 (zs143.map Gapi_Node.cells), .blk i111 [.str s130, .bool x105.xDir, .str x105.xData, .int .i64 x105.xMode, .int .i64 x105.xTime] 75, .row u137 75 5 (([(⟨s130, x105.xDir, x105.xData, x105.xMode, x105.xTime⟩ : Gapi_Node)] : List Gapi_Node).map Gapi_Node.cells)] := S147
              refine AE_joinR (fun e h' => h145 = h' ∧ e.length = 56 ∧ e.getD 0 .undef = ut ∧ e.getD 1 .undef = .str dir ∧ e.getD 5 .undef = u144 ∧ e.getD 30 .undef = ut ∧ e.getD 31 .undef = .int .i64 (t.length : Int) ∧ e.getD 32 .undef = .int .i64 s.2) (by
                simp only [↓WE, WA, WL, aop, ofValue, ofCell, isConst, abin, acall1, abuiltin, aun, AV.cells, AV.one, Nat.reduceAdd, Int.reduceLT, Int.reduceLE, ↓WD, W0, evalOp, Nat.reduceEqDiff, Nat.reduceLT, ↓reduceIte, reduceCtorEq, hl, e0, e1, e5, e7, e30, e31, e32, ol136, ob139, op146]
                refine ⟨rfl, ?_, ?_, ?_, ?_, ?_, ?_, ?_⟩ <;> simp only [List.length_set, W0, Nat.reduceEqDiff, Nat.reduceLT, ↓reduceIte, hl, e0, e1, e5, e7, e30, e31, e32]) ?_
              rintro envg149 _ ⟨rfl, hl, e0, e1, e5, e30, e31, e32⟩
              try simp only [↓WD, W0, evalOp, Nat.reduceEqDiff, Nat.reduceLT, ↓reduceIte, reduceCtorEq, hl, e0, e1, e5, e30, e31, e32]
              rw [AW_region]
              refine AE_joinR (fun e h' => h145 = h' ∧ e.length = 56 ∧ e.getD 0 .undef = ut ∧ e.getD 1 .undef = .str dir ∧ e.getD 5 .undef = u144 ∧ e.getD 30 .undef = ut ∧ e.getD 31 .undef = .int .i64 (t.length : Int) ∧ e.getD 32 .undef = .int .i64 (IntKind.i64.wrap (s.2 + 1))) (by
                simp only [↓WE, WA, WL, aop, ofValue, ofCell, isConst, abin, acall1, abuiltin, aun, AV.cells, AV.one, Nat.reduceAdd, Int.reduceLT, Int.reduceLE, ↓WD, W0, evalOp, Nat.reduceEqDiff, Nat.reduceLT, ↓reduceIte, reduceCtorEq, hl, e0, e1, e5, e30, e31, e32]
                refine ⟨rfl, ?_, ?_, ?_, ?_, ?_, ?_, ?_⟩ <;> simp only [List.length_set, W0, Nat.reduceEqDiff, Nat.reduceLT, ↓reduceIte, hl, e0, e1, e5, e30, e31, e32]) ?_
              rintro envg150 _ ⟨rfl, hl, e0, e1, e5, e30, e31, e32⟩
              try simp only [↓WD, W0, evalOp, Nat.reduceEqDiff, Nat.reduceLT, ↓reduceIte, reduceCtorEq, hl, e0, e1, e5, e30, e31, e32]
              obtain rfl := Option.some.inj wr153
              rw [KP_nil, QL_normal]
              refine ⟨_, rfl, u144, ?_, ?_, ?_, ?_, ?_, ?_, ?_, S148.pick [0] (by decide) rfl⟩ <;> simp only [List.length_set, W0, Nat.reduceEqDiff, Nat.reduceLT, ↓reduceIte, hl, e0, e1, e5, e30, e31, e32]
          · rw [if_neg c104] at wr153
            try simp only [↓WD, W0, evalOp, Nat.reduceEqDiff, Nat.reduceLT, ↓reduceIte, reduceCtorEq, hl, e0, e1, e5, e30, e31, e32, e33]
            obtain rfl := Option.some.inj wr153
            rw [KP_nil, QL_exit]
            refine ⟨_, rfl, .inl ⟨_, u99, rfl, rfl, ?_, ?_, ?_, ?_, S101⟩⟩ <;> simp only [List.length_set, W0, Nat.reduceEqDiff, Nat.reduceLT, ↓reduceIte, hl, e0, e1, e5, e30, e31, e32, e33]
        · refine ⟨.val (.slice none 0 0), ?_, ?_, ?_, ?_, ?_, ?_, ?_, S95⟩ <;> simp only [List.length_set, W0, Nat.reduceEqDiff, Nat.reduceLT, ↓reduceIte, hl, e0, e1, e5, e30, e31, e32]
        · intro x envr153 h156 hk
          rcases hk with ⟨t154, u155, rfl, rfl, hl, e0, e1, e5, S157⟩ | ⟨t158, rfl, rfl, hl, e4, S160⟩
          · skip
            rw [sumK_inl] at hF
            try simp only [↓WD, W0, evalOp, Nat.reduceEqDiff, Nat.reduceLT, ↓reduceIte, reduceCtorEq, hl, e0, e1, e5]
            rw [AW_region]
            obtain ⟨y161, qy161, hF⟩ := obind hF
            obtain ⟨v165, h163, og162, rfl, S164⟩ := (W_digest_Under k16 k90 k95 k116 k128 n51 n66 n67 n68 n91 n106 n118 n53 m (by omega) h156 u155 t154 (S157.row_ro (i := 0) rfl) dir qy161).out
            have S166 : Sep h [] h163 [.row u155 75 5 (t154.map Gapi_Node.cells)] := S157.call0 S164
            obtain ⟨y167, qy167, hF⟩ := obind hF
            obtain ⟨v171, h169, og168, rfl, S170⟩ := (W_digest_Tree k16 k90 k116 k128 n66 n67 n68 n91 n106 n118 n51 m (by omega) h163 ut t (S166.ro hut) qy167).out
            have S172 : Sep h [] h169 [.row u155 75 5 (t154.map Gapi_Node.cells)] := S166.call0 S170
            refine AE_joinR (fun e h' => h169 = h' ∧ e.length = 56 ∧ e.getD 4 .undef = .bool (y161 == y167)) (by
              simp only [↓WE, WA, WL, aop, ofValue, ofCell, isConst, abin, acall1, abuiltin, aun, AV.cells, AV.one, Nat.reduceAdd, Int.reduceLT, Int.reduceLE, ↓WD, W0, evalOp, Nat.reduceEqDiff, Nat.reduceLT, ↓reduceIte, reduceCtorEq, hl, e0, e1, e5, og162, og168]
              refine ⟨rfl, ?_, ?_⟩ <;> simp only [List.length_set, W0, Nat.reduceEqDiff, Nat.reduceLT, ↓reduceIte, hl, e0, e1, e5]) ?_
            rintro envg173 _ ⟨rfl, hl, e4⟩
            try simp only [↓WD, W0, evalOp, Nat.reduceEqDiff, Nat.reduceLT, ↓reduceIte, reduceCtorEq, hl, e4]
            refine KP_ret (vs := [.bool (y161 == y167)]) (by simp only [aresults, aresult, gs, List.length_set, Nat.reduceEqDiff, Nat.reduceLT, ↓reduceIte, hl, e4]) ?_
            obtain rfl := Option.some.inj hF
            exact ⟨rfl, S172.pick [] (by decide) rfl⟩
          · skip
            rw [sumK_inr] at hF
            try simp only [↓WD, W0, evalOp, Nat.reduceEqDiff, Nat.reduceLT, ↓reduceIte, reduceCtorEq, hl, e4]
            refine KP_ret (vs := [.bool true]) (by simp only [aresults, aresult, gs, List.length_set, Nat.reduceEqDiff, Nat.reduceLT, ↓reduceIte, hl, e4]) ?_
            obtain rfl := Option.some.inj hF
            exact ⟨rfl, S160⟩
theorem W_field_Cut {K : PureK} (n107 : K 107 = none) (m : Nat) (hm : NF + 1 ≤ m) (h : AH) (s_ : List UInt8) (at_ : Int) (n_ : Int) {r : (List UInt8) × Int} (hF : F_field_Cut s_ at_ n_ = some r) :
    AR (acall Try.prog (hooksOf K) (drawnOf Try.prog (tabOf K)) m 107 [.str s_, .int .i64 at_, .int .i64 n_] h) (fun v h' => v = .tup [.str r.1, .int .i64 r.2]) := by
  obtain ⟨m, rfl⟩ : ∃ k, m = k + 1 := ⟨m - 1, by omega⟩
  refine AR_call (hooksOf_none n107) Try.func107 rfl _ _ fun env hl he => ?_
  have e0 := he 0
  have e1 := he 1
  have e2 := he 2
  simp only [List.getD_cons_zero, List.getD_cons_succ] at e0 e1 e2
  simp only [Try.f107] at hl ⊢
  simp only [List.length_cons, List.length_nil, Nat.reduceAdd, Nat.reduceSub] at hl
  clear he
  have S0 : Sep h [] h [] := Sep.nil h
  rw [F_field_Cut] at hF
  try simp only [↓WD, W0, evalOp, Nat.reduceEqDiff, Nat.reduceLT, ↓reduceIte, reduceCtorEq, hl, e0, e1, e2]
  rw [AW_region]
  refine AE_joinR (fun e h' => h = h' ∧ e.length = 34 ∧ e.getD 0 .undef = .str s_ ∧ e.getD 1 .undef = .int .i64 at_ ∧ e.getD 2 .undef = .int .i64 n_) (by
    simp only [↓WE, WA, WL, aop, ofValue, ofCell, isConst, abin, acall1, abuiltin, aun, AV.cells, AV.one, Nat.reduceAdd, Int.reduceLT, Int.reduceLE, ↓WD, W0, evalOp, Nat.reduceEqDiff, Nat.reduceLT, ↓reduceIte, reduceCtorEq, hl, e0, e1, e2]
    refine ⟨rfl, ?_, ?_, ?_, ?_⟩ <;> simp only [List.length_set, W0, Nat.reduceEqDiff, Nat.reduceLT, ↓reduceIte, hl, e0, e1, e2]) ?_
  rintro envg1 _ ⟨rfl, hl, e0, e1, e2⟩
  try simp only [↓WD, W0, evalOp, Nat.reduceEqDiff, Nat.reduceLT, ↓reduceIte, reduceCtorEq, hl, e0, e1, e2]
  rw [AW_region]
  obtain ⟨j13, qj13, hF⟩ := obind hF
  refine AE_joinR (fun e h' => e.length = 34 ∧ e.getD 0 .undef = .str s_ ∧ e.getD 1 .undef = .int .i64 at_ ∧ e.getD 2 .undef = .int .i64 n_ ∧ e.getD 27 .undef = .bool j13 ∧ Sep h [] h' []) ?_ ?_
  · simp only [↓WE, WA, WL, aop, ofValue, ofCell, isConst, abin, acall1, abuiltin, aun, AV.cells, AV.one, Nat.reduceAdd, Int.reduceLT, Int.reduceLE, ↓WD, W0, evalOp, Nat.reduceEqDiff, Nat.reduceLT, ↓reduceIte, reduceCtorEq, hl, e0, e1, e2]
    refine GuardW_dec (fun c2 => ?_) (fun c2 => ?_)
    · rw [if_pos c2] at qj13
      have d3 : (decide (at_ < 0)) = true := decide_eq_true c2
      simp only [↓WE, WA, WL, aop, ofValue, ofCell, isConst, abin, acall1, abuiltin, aun, AV.cells, AV.one, Nat.reduceAdd, Int.reduceLT, Int.reduceLE, ↓WD, W0, evalOp, Nat.reduceEqDiff, Nat.reduceLT, ↓reduceIte, reduceCtorEq, hl, e0, e1, e2, d3]
      obtain rfl := Option.some.inj qj13
      refine ⟨?_, ?_, ?_, ?_, ?_, S0⟩ <;> simp only [List.length_set, W0, Nat.reduceEqDiff, Nat.reduceLT, ↓reduceIte, hl, e0, e1, e2]
    · rw [if_neg c2] at qj13
      have d4 : (decide (at_ < 0)) = false := decide_eq_false c2
      simp only [↓WE, WA, WL, aop, ofValue, ofCell, isConst, abin, acall1, abuiltin, aun, AV.cells, AV.one, Nat.reduceAdd, Int.reduceLT, Int.reduceLE, ↓WD, W0, evalOp, Nat.reduceEqDiff, Nat.reduceLT, ↓reduceIte, reduceCtorEq, hl, e0, e1, e2, d4]
      refine GuardW_dec (fun c5 => ?_) (fun c5 => ?_)
      · rw [if_pos c5] at qj13
        have d6 : (decide (n_ < 0)) = true := decide_eq_true c5
        simp only [↓WE, WA, WL, aop, ofValue, ofCell, isConst, abin, acall1, abuiltin, aun, AV.cells, AV.one, Nat.reduceAdd, Int.reduceLT, Int.reduceLE, ↓WD, W0, evalOp, Nat.reduceEqDiff, Nat.reduceLT, ↓reduceIte, reduceCtorEq, hl, e0, e1, e2, d4, d6]
        obtain rfl := Option.some.inj qj13
        refine ⟨?_, ?_, ?_, ?_, ?_, S0⟩ <;> simp only [List.length_set, W0, Nat.reduceEqDiff, Nat.reduceLT, ↓reduceIte, hl, e0, e1, e2]
      · rw [if_neg c5] at qj13
        have d7 : (decide (n_ < 0)) = false := decide_eq_false c5
        have ol8 := fun g : AH => alen_str (P := Try.prog) (h := g) (l := s_) Try.underlying9
        simp only [↓WE, WA, WL, aop, ofValue, ofCell, isConst, abin, acall1, abuiltin, aun, AV.cells, AV.one, Nat.reduceAdd, Int.reduceLT, Int.reduceLE, ↓WD, W0, evalOp, Nat.reduceEqDiff, Nat.reduceLT, ↓reduceIte, reduceCtorEq, hl, e0, e1, e2, ol8, d4, d7]
        refine GuardW_dec (fun c9 => ?_) (fun c9 => ?_)
        · rw [if_pos c9] at qj13
          have d10 : (decide (at_ > (s_.length : Int))) = true := decide_eq_true c9
          simp only [↓WE, WA, WL, aop, ofValue, ofCell, isConst, abin, acall1, abuiltin, aun, AV.cells, AV.one, Nat.reduceAdd, Int.reduceLT, Int.reduceLE, ↓WD, W0, evalOp, Nat.reduceEqDiff, Nat.reduceLT, ↓reduceIte, reduceCtorEq, hl, e0, e1, e2, ol8, d4, d7, d10]
          obtain rfl := Option.some.inj qj13
          refine ⟨?_, ?_, ?_, ?_, ?_, S0⟩ <;> simp only [List.length_set, W0, Nat.reduceEqDiff, Nat.reduceLT, ↓reduceIte, hl, e0, e1, e2]
        · rw [if_neg c9] at qj13
          have d11 : (decide (at_ > (s_.length : Int))) = false := decide_eq_false c9
          have ol12 := fun g : AH => alen_str (P := Try.prog) (h := g) (l := s_) Try.underlying9
          simp only [↓WE, WA, WL, aop, ofValue, ofCell, isConst, abin, acall1, abuiltin, aun, AV.cells, AV.one, Nat.reduceAdd, Int.reduceLT, Int.reduceLE, ↓WD, W0, evalOp, Nat.reduceEqDiff, Nat.reduceLT, ↓reduceIte, reduceCtorEq, hl, e0, e1, e2, ol8, ol12, d4, d7, d11]
          obtain rfl := Option.some.inj qj13
          refine ⟨?_, ?_, ?_, ?_, ?_, S0⟩ <;> simp only [List.length_set, W0, Nat.reduceEqDiff, Nat.reduceLT, ↓reduceIte, hl, e0, e1, e2]
  · rintro envj13 h15 ⟨hl, e0, e1, e2, e27, S14⟩
    try simp only [↓WD, W0, evalOp, Nat.reduceEqDiff, Nat.reduceLT, ↓reduceIte, reduceCtorEq, hl, e0, e1, e2, e27]
    refine CondK_boo (fun c18 => ?_) (fun c18 => ?_)
    · rw [if_pos c18] at hF
      try simp only [↓WD, W0, evalOp, Nat.reduceEqDiff, Nat.reduceLT, ↓reduceIte, reduceCtorEq, hl, e0, e1, e2, e27]
      rw [AW_region]
      refine AE_joinR (fun e h' => h15 = h' ∧ e.length = 34 ∧ e.getD 6 .undef = .str [] ∧ e.getD 7 .undef = .int .i64 3) (by
        simp only [↓WE, WA, WL, aop, ofValue, ofCell, isConst, abin, acall1, abuiltin, aun, AV.cells, AV.one, Nat.reduceAdd, Int.reduceLT, Int.reduceLE, ↓WD, W0, evalOp, Nat.reduceEqDiff, Nat.reduceLT, ↓reduceIte, reduceCtorEq, hl, e0, e1, e2, e27]
        refine ⟨rfl, ?_, ?_, ?_⟩ <;> simp only [List.length_set, W0, Nat.reduceEqDiff, Nat.reduceLT, ↓reduceIte, hl, e0, e1, e2, e27]) ?_
      rintro envg19 _ ⟨rfl, hl, e6, e7⟩
      try simp only [↓WD, W0, evalOp, Nat.reduceEqDiff, Nat.reduceLT, ↓reduceIte, reduceCtorEq, hl, e6, e7]
      refine KP_ret (vs := [.str [], .int .i64 3]) (by simp only [aresults, aresult, gs, List.length_set, Nat.reduceEqDiff, Nat.reduceLT, ↓reduceIte, hl, e6, e7]) ?_
      obtain rfl := Option.some.inj hF
      exact rfl
    · rw [if_neg (nf c18)] at hF
      try simp only [↓WD, W0, evalOp, Nat.reduceEqDiff, Nat.reduceLT, ↓reduceIte, reduceCtorEq, hl, e0, e1, e2, e27]
      rw [AW_region]
      obtain ⟨s20, qs20, hF⟩ := obind hF
      have os20 := fun g : AH => sub_str (P := Try.prog) (h := g) (k := .i64) (k' := .i64) Try.underlying9 qs20
      refine AE_joinR (fun e h' => h15 = h' ∧ e.length = 34 ∧ e.getD 6 .undef = .str s20 ∧ e.getD 7 .undef = .int .i64 0) (by
        simp only [↓WE, WA, WL, aop, ofValue, ofCell, isConst, abin, acall1, abuiltin, aun, AV.cells, AV.one, Nat.reduceAdd, Int.reduceLT, Int.reduceLE, ↓WD, W0, evalOp, Nat.reduceEqDiff, Nat.reduceLT, ↓reduceIte, reduceCtorEq, hl, e0, e1, e2, e27, os20]
        refine ⟨rfl, ?_, ?_, ?_⟩ <;> simp only [List.length_set, W0, Nat.reduceEqDiff, Nat.reduceLT, ↓reduceIte, hl, e0, e1, e2, e27]) ?_
      rintro envg21 _ ⟨rfl, hl, e6, e7⟩
      try simp only [↓WD, W0, evalOp, Nat.reduceEqDiff, Nat.reduceLT, ↓reduceIte, reduceCtorEq, hl, e6, e7]
      refine KP_ret (vs := [.str s20, .int .i64 0]) (by simp only [aresults, aresult, gs, List.length_set, Nat.reduceEqDiff, Nat.reduceLT, ↓reduceIte, hl, e6, e7]) ?_
      obtain rfl := Option.some.inj hF
      exact rfl
theorem W_field_number {K : PureK} (k107 : K 107 = some kf_107) (n129 : K 129 = none) (m : Nat) (hm : NF + 1 ≤ m) (h : AH) (s_ : List UInt8) (at_ : Int) (n_ : Int) {r : Int × Int} (hF : F_field_number s_ at_ n_ = some r) :
    AR (acall Try.prog (hooksOf K) (drawnOf Try.prog (tabOf K)) m 129 [.str s_, .int .i64 at_, .int .i64 n_] h) (fun v h' => v = .tup [.int .u64 r.1, .int .i64 r.2]) := by
  obtain ⟨m, rfl⟩ : ∃ k, m = k + 1 := ⟨m - 1, by omega⟩
  refine AR_call (hooksOf_none n129) Try.func129 rfl _ _ fun env hl he => ?_
  have e0 := he 0
  have e1 := he 1
  have e2 := he 2
  simp only [List.getD_cons_zero, List.getD_cons_succ] at e0 e1 e2
  simp only [Try.f129] at hl ⊢
  simp only [List.length_cons, List.length_nil, Nat.reduceAdd, Nat.reduceSub] at hl
  clear he
  have S0 : Sep h [] h [] := Sep.nil h
  rw [F_field_number] at hF
  try simp only [↓WD, W0, evalOp, Nat.reduceEqDiff, Nat.reduceLT, ↓reduceIte, reduceCtorEq, hl, e0, e1, e2]
  rw [AW_region]
  refine AE_joinR (fun e h' => h = h' ∧ e.length = 36 ∧ e.getD 0 .undef = .str s_ ∧ e.getD 1 .undef = .int .i64 at_ ∧ e.getD 2 .undef = .int .i64 n_) (by
    simp only [↓WE, WA, WL, aop, ofValue, ofCell, isConst, abin, acall1, abuiltin, aun, AV.cells, AV.one, Nat.reduceAdd, Int.reduceLT, Int.reduceLE, ↓WD, W0, evalOp, Nat.reduceEqDiff, Nat.reduceLT, ↓reduceIte, reduceCtorEq, hl, e0, e1, e2]
    refine ⟨rfl, ?_, ?_, ?_, ?_⟩ <;> simp only [List.length_set, W0, Nat.reduceEqDiff, Nat.reduceLT, ↓reduceIte, hl, e0, e1, e2]) ?_
  rintro envg1 _ ⟨rfl, hl, e0, e1, e2⟩
  try simp only [↓WD, W0, evalOp, Nat.reduceEqDiff, Nat.reduceLT, ↓reduceIte, reduceCtorEq, hl, e0, e1, e2]
  rw [AW_region]
  obtain ⟨y2, qy2, hF⟩ := obind hF
  have og3 := fun (D : Drawn) (n : Nat) (g : AH) => call_hook (P := Try.prog) (D := D) k107 n (args := [.str s_, .int .i64 at_, .int .i64 n_]) (v := .tup [.str y2.1, .int .i64 y2.2]) ((kf_107_eq s_ at_ n_).trans (by rw [qy2]; rfl)) g
  refine AE_joinR (fun e h' => h = h' ∧ e.length = 36 ∧ e.getD 8 .undef = .str y2.1 ∧ e.getD 9 .undef = .int .i64 y2.2) (by
    simp only [↓WE, WA, WL, aop, ofValue, ofCell, isConst, abin, acall1, abuiltin, aun, AV.cells, AV.one, Nat.reduceAdd, Int.reduceLT, Int.reduceLE, ↓WD, W0, evalOp, Nat.reduceEqDiff, Nat.reduceLT, ↓reduceIte, reduceCtorEq, hl, e0, e1, e2, og3]
    refine ⟨rfl, ?_, ?_, ?_⟩ <;> simp only [List.length_set, W0, Nat.reduceEqDiff, Nat.reduceLT, ↓reduceIte, hl, e0, e1, e2]) ?_
  rintro envg4 _ ⟨rfl, hl, e8, e9⟩
  try simp only [↓WD, W0, evalOp, Nat.reduceEqDiff, Nat.reduceLT, ↓reduceIte, reduceCtorEq, hl, e8, e9]
  rw [AW_region]
  refine AE_joinR (fun e h' => h = h' ∧ e.length = 36 ∧ e.getD 8 .undef = .str y2.1 ∧ e.getD 9 .undef = .int .i64 y2.2 ∧ e.getD 10 .undef = .int .u64 0) (by
    simp only [↓WE, WA, WL, aop, ofValue, ofCell, isConst, abin, acall1, abuiltin, aun, AV.cells, AV.one, Nat.reduceAdd, Int.reduceLT, Int.reduceLE, ↓WD, W0, evalOp, Nat.reduceEqDiff, Nat.reduceLT, ↓reduceIte, reduceCtorEq, hl, e8, e9]
    refine ⟨rfl, ?_, ?_, ?_, ?_⟩ <;> simp only [List.length_set, W0, Nat.reduceEqDiff, Nat.reduceLT, ↓reduceIte, hl, e8, e9]) ?_
  rintro envg5 _ ⟨rfl, hl, e8, e9, e10⟩
  try simp only [↓WD, W0, evalOp, Nat.reduceEqDiff, Nat.reduceLT, ↓reduceIte, reduceCtorEq, hl, e8, e9, e10]
  rw [AW_region]
  have ol6 := fun g : AH => alen_str (P := Try.prog) (h := g) (l := y2.1) Try.underlying9
  refine AE_joinR (fun e h' => h = h' ∧ e.length = 36 ∧ e.getD 8 .undef = .str y2.1 ∧ e.getD 9 .undef = .int .i64 y2.2 ∧ e.getD 10 .undef = .int .u64 0 ∧ e.getD 20 .undef = .int .i64 (y2.1.length : Int) ∧ e.getD 21 .undef = .int .i64 0) (by
    simp only [↓WE, WA, WL, aop, ofValue, ofCell, isConst, abin, acall1, abuiltin, aun, AV.cells, AV.one, Nat.reduceAdd, Int.reduceLT, Int.reduceLE, ↓WD, W0, evalOp, Nat.reduceEqDiff, Nat.reduceLT, ↓reduceIte, reduceCtorEq, hl, e8, e9, e10, ol6]
    refine ⟨rfl, ?_, ?_, ?_, ?_, ?_, ?_⟩ <;> simp only [List.length_set, W0, Nat.reduceEqDiff, Nat.reduceLT, ↓reduceIte, hl, e8, e9, e10]) ?_
  rintro envg7 _ ⟨rfl, hl, e8, e9, e10, e20, e21⟩
  try simp only [↓WD, W0, evalOp, Nat.reduceEqDiff, Nat.reduceLT, ↓reduceIte, reduceCtorEq, hl, e8, e9, e10, e20, e21]
  obtain ⟨r30, qr30, hF⟩ := obind hF
  refine AW_lift (L_field_number_1 y2) (fun s e h' => e.length = 36 ∧ e.getD 8 .undef = .str y2.1 ∧ e.getD 9 .undef = .int .i64 y2.2 ∧ e.getD 10 .undef = .int .u64 s.1 ∧ e.getD 20 .undef = .int .i64 (y2.1.length : Int) ∧ e.getD 21 .undef = .int .i64 s.2 ∧ Sep h [] h' []) (fun r30 x e h' => x = .exit 0 ∧ e.length = 36 ∧ e.getD 9 .undef = .int .i64 y2.2 ∧ e.getD 10 .undef = .int .u64 r30 ∧ Sep h [] h' []) qr30 (by omega) ?_ ?_ ?_
  · rintro s envr30 h19 or30 ⟨hl, e8, e9, e10, e20, e21, S20⟩ wr30
    rw [L_field_number_1] at wr30
    try simp only [↓WD, W0, evalOp, Nat.reduceEqDiff, Nat.reduceLT, ↓reduceIte, reduceCtorEq, hl, e8, e9, e10, e20, e21]
    rw [AW_region]
    refine AE_joinR (fun e h' => h19 = h' ∧ e.length = 36 ∧ e.getD 8 .undef = .str y2.1 ∧ e.getD 9 .undef = .int .i64 y2.2 ∧ e.getD 10 .undef = .int .u64 s.1 ∧ e.getD 20 .undef = .int .i64 (y2.1.length : Int) ∧ e.getD 21 .undef = .int .i64 s.2 ∧ e.getD 22 .undef = .bool (decide (s.2 < (y2.1.length : Int)))) (by
      simp only [↓WE, WA, WL, aop, ofValue, ofCell, isConst, abin, acall1, abuiltin, aun, AV.cells, AV.one, Nat.reduceAdd, Int.reduceLT, Int.reduceLE, ↓WD, W0, evalOp, Nat.reduceEqDiff, Nat.reduceLT, ↓reduceIte, reduceCtorEq, hl, e8, e9, e10, e20, e21]
      refine ⟨rfl, ?_, ?_, ?_, ?_, ?_, ?_, ?_⟩ <;> simp only [List.length_set, W0, Nat.reduceEqDiff, Nat.reduceLT, ↓reduceIte, hl, e8, e9, e10, e20, e21]) ?_
    rintro envg21 _ ⟨rfl, hl, e8, e9, e10, e20, e21, e22⟩
    try simp only [↓WD, W0, evalOp, Nat.reduceEqDiff, Nat.reduceLT, ↓reduceIte, reduceCtorEq, hl, e8, e9, e10, e20, e21, e22]
    refine CondK_dec (fun c23 => ?_) (fun c23 => ?_)
    · rw [if_pos c23] at wr30
      try simp only [↓WD, W0, evalOp, Nat.reduceEqDiff, Nat.reduceLT, ↓reduceIte, reduceCtorEq, hl, e8, e9, e10, e20, e21, e22]
      rw [AW_region]
      refine AE_joinR (fun e h' => h19 = h' ∧ e.length = 36 ∧ e.getD 8 .undef = .str y2.1 ∧ e.getD 9 .undef = .int .i64 y2.2 ∧ e.getD 10 .undef = .int .u64 s.1 ∧ e.getD 11 .undef = .int .i64 s.2 ∧ e.getD 20 .undef = .int .i64 (y2.1.length : Int) ∧ e.getD 21 .undef = .int .i64 s.2) (by
        simp only [↓WE, WA, WL, aop, ofValue, ofCell, isConst, abin, acall1, abuiltin, aun, AV.cells, AV.one, Nat.reduceAdd, Int.reduceLT, Int.reduceLE, ↓WD, W0, evalOp, Nat.reduceEqDiff, Nat.reduceLT, ↓reduceIte, reduceCtorEq, hl, e8, e9, e10, e20, e21, e22]
        refine ⟨rfl, ?_, ?_, ?_, ?_, ?_, ?_, ?_⟩ <;> simp only [List.length_set, W0, Nat.reduceEqDiff, Nat.reduceLT, ↓reduceIte, hl, e8, e9, e10, e20, e21, e22]) ?_
      rintro envg24 _ ⟨rfl, hl, e8, e9, e10, e11, e20, e21⟩
      try simp only [↓WD, W0, evalOp, Nat.reduceEqDiff, Nat.reduceLT, ↓reduceIte, reduceCtorEq, hl, e8, e9, e10, e11, e20, e21]
      rw [AW_region]
      obtain ⟨c25, qc25, wr30⟩ := obind wr30
      have oc25 := idx_str (P := Try.prog) (k := .i64) Try.underlying9 qc25
      have oc26 := fun g : AH => aconv_int (P := Try.prog) (h := g) (n := c25) (k' := .u8) Try.underlying5 Try.underlying24
      obtain ⟨y27, qy27, wr30⟩ := obind wr30
      have oy27 := shl_int (k := .u64) qy27
      refine AE_joinR (fun e h' => h19 = h' ∧ e.length = 36 ∧ e.getD 8 .undef = .str y2.1 ∧ e.getD 9 .undef = .int .i64 y2.2 ∧ e.getD 10 .undef = .int .u64 (orI .u64 s.1 y27) ∧ e.getD 20 .undef = .int .i64 (y2.1.length : Int) ∧ e.getD 21 .undef = .int .i64 s.2) (by
        simp only [↓WE, WA, WL, aop, ofValue, ofCell, isConst, abin, acall1, abuiltin, aun, AV.cells, AV.one, Nat.reduceAdd, Int.reduceLT, Int.reduceLE, ↓WD, W0, evalOp, Nat.reduceEqDiff, Nat.reduceLT, ↓reduceIte, reduceCtorEq, hl, e8, e9, e10, e11, e20, e21, oc25, oc26, oy27]
        refine ⟨rfl, ?_, ?_, ?_, ?_, ?_, ?_⟩ <;> simp only [List.length_set, W0, Nat.reduceEqDiff, Nat.reduceLT, ↓reduceIte, hl, e8, e9, e10, e11, e20, e21]) ?_
      rintro envg28 _ ⟨rfl, hl, e8, e9, e10, e20, e21⟩
      try simp only [↓WD, W0, evalOp, Nat.reduceEqDiff, Nat.reduceLT, ↓reduceIte, reduceCtorEq, hl, e8, e9, e10, e20, e21]
      rw [AW_region]
      refine AE_joinR (fun e h' => h19 = h' ∧ e.length = 36 ∧ e.getD 8 .undef = .str y2.1 ∧ e.getD 9 .undef = .int .i64 y2.2 ∧ e.getD 10 .undef = .int .u64 (orI .u64 s.1 y27) ∧ e.getD 20 .undef = .int .i64 (y2.1.length : Int) ∧ e.getD 21 .undef = .int .i64 (IntKind.i64.wrap (s.2 + 1))) (by
        simp only [↓WE, WA, WL, aop, ofValue, ofCell, isConst, abin, acall1, abuiltin, aun, AV.cells, AV.one, Nat.reduceAdd, Int.reduceLT, Int.reduceLE, ↓WD, W0, evalOp, Nat.reduceEqDiff, Nat.reduceLT, ↓reduceIte, reduceCtorEq, hl, e8, e9, e10, e20, e21]
        refine ⟨rfl, ?_, ?_, ?_, ?_, ?_, ?_⟩ <;> simp only [List.length_set, W0, Nat.reduceEqDiff, Nat.reduceLT, ↓reduceIte, hl, e8, e9, e10, e20, e21]) ?_
      rintro envg29 _ ⟨rfl, hl, e8, e9, e10, e20, e21⟩
      try simp only [↓WD, W0, evalOp, Nat.reduceEqDiff, Nat.reduceLT, ↓reduceIte, reduceCtorEq, hl, e8, e9, e10, e20, e21]
      obtain rfl := Option.some.inj wr30
      rw [KP_nil, QL_normal]
      refine ⟨_, rfl, ?_, ?_, ?_, ?_, ?_, ?_, S20⟩ <;> simp only [List.length_set, W0, Nat.reduceEqDiff, Nat.reduceLT, ↓reduceIte, hl, e8, e9, e10, e20, e21]
    · rw [if_neg c23] at wr30
      try simp only [↓WD, W0, evalOp, Nat.reduceEqDiff, Nat.reduceLT, ↓reduceIte, reduceCtorEq, hl, e8, e9, e10, e20, e21, e22]
      obtain rfl := Option.some.inj wr30
      rw [KP_nil, QL_exit]
      refine ⟨_, rfl, rfl, ?_, ?_, ?_, S20⟩ <;> simp only [List.length_set, W0, Nat.reduceEqDiff, Nat.reduceLT, ↓reduceIte, hl, e8, e9, e10, e20, e21, e22]
  · refine ⟨?_, ?_, ?_, ?_, ?_, ?_, S0⟩ <;> simp only [List.length_set, W0, Nat.reduceEqDiff, Nat.reduceLT, ↓reduceIte, hl, e8, e9, e10, e20, e21]
  · rintro x envr30 h31 ⟨rfl, hl, e9, e10, S32⟩
    try simp only [↓WD, W0, evalOp, Nat.reduceEqDiff, Nat.reduceLT, ↓reduceIte, reduceCtorEq, hl, e9, e10]
    rw [AW_region]
    refine AE_joinR (fun e h' => h31 = h' ∧ e.length = 36 ∧ e.getD 6 .undef = .int .u64 r30 ∧ e.getD 7 .undef = .int .i64 y2.2) (by
      simp only [↓WE, WA, WL, aop, ofValue, ofCell, isConst, abin, acall1, abuiltin, aun, AV.cells, AV.one, Nat.reduceAdd, Int.reduceLT, Int.reduceLE, ↓WD, W0, evalOp, Nat.reduceEqDiff, Nat.reduceLT, ↓reduceIte, reduceCtorEq, hl, e9, e10]
      refine ⟨rfl, ?_, ?_, ?_⟩ <;> simp only [List.length_set, W0, Nat.reduceEqDiff, Nat.reduceLT, ↓reduceIte, hl, e9, e10]) ?_
    rintro envg33 _ ⟨rfl, hl, e6, e7⟩
    try simp only [↓WD, W0, evalOp, Nat.reduceEqDiff, Nat.reduceLT, ↓reduceIte, reduceCtorEq, hl, e6, e7]
    refine KP_ret (vs := [.int .u64 r30, .int .i64 y2.2]) (by simp only [aresults, aresult, gs, List.length_set, Nat.reduceEqDiff, Nat.reduceLT, ↓reduceIte, hl, e6, e7]) ?_
    obtain rfl := Option.some.inj hF
    exact rfl
theorem W_field_U16 {K : PureK} (k129 : K 129 = some kf_129) (n108 : K 108 = none) (m : Nat) (hm : NF + 1 ≤ m) (h : AH) (s_ : List UInt8) (at_ : Int) {r : Int × Int} (hF : F_field_U16 s_ at_ = some r) :
    AR (acall Try.prog (hooksOf K) (drawnOf Try.prog (tabOf K)) m 108 [.str s_, .int .i64 at_] h) (fun v h' => v = .tup [.int .i64 r.1, .int .i64 r.2]) := by
  obtain ⟨m, rfl⟩ : ∃ k, m = k + 1 := ⟨m - 1, by omega⟩
  refine AR_call (hooksOf_none n108) Try.func108 rfl _ _ fun env hl he => ?_
  have e0 := he 0
  have e1 := he 1
  simp only [List.getD_cons_zero, List.getD_cons_succ] at e0 e1
  simp only [Try.f108] at hl ⊢
  simp only [List.length_cons, List.length_nil, Nat.reduceAdd, Nat.reduceSub] at hl
  clear he
  have S0 : Sep h [] h [] := Sep.nil h
  rw [F_field_U16] at hF
  try simp only [↓WD, W0, evalOp, Nat.reduceEqDiff, Nat.reduceLT, ↓reduceIte, reduceCtorEq, hl, e0, e1]
  rw [AW_region]
  refine AE_joinR (fun e h' => h = h' ∧ e.length = 17 ∧ e.getD 0 .undef = .str s_ ∧ e.getD 1 .undef = .int .i64 at_) (by
    simp only [↓WE, WA, WL, aop, ofValue, ofCell, isConst, abin, acall1, abuiltin, aun, AV.cells, AV.one, Nat.reduceAdd, Int.reduceLT, Int.reduceLE, ↓WD, W0, evalOp, Nat.reduceEqDiff, Nat.reduceLT, ↓reduceIte, reduceCtorEq, hl, e0, e1]
    refine ⟨rfl, ?_, ?_, ?_⟩ <;> simp only [List.length_set, W0, Nat.reduceEqDiff, Nat.reduceLT, ↓reduceIte, hl, e0, e1]) ?_
  rintro envg1 _ ⟨rfl, hl, e0, e1⟩
  try simp only [↓WD, W0, evalOp, Nat.reduceEqDiff, Nat.reduceLT, ↓reduceIte, reduceCtorEq, hl, e0, e1]
  rw [AW_region]
  obtain ⟨y2, qy2, hF⟩ := obind hF
  have og3 := fun (D : Drawn) (n : Nat) (g : AH) => call_hook (P := Try.prog) (D := D) k129 n (args := [.str s_, .int .i64 at_, .int .i64 2]) (v := .tup [.int .u64 y2.1, .int .i64 y2.2]) ((kf_129_eq s_ at_ 2).trans (by rw [qy2]; rfl)) g
  refine AE_joinR (fun e h' => h = h' ∧ e.length = 17 ∧ e.getD 6 .undef = .int .u64 y2.1 ∧ e.getD 7 .undef = .int .i64 y2.2) (by
    simp only [↓WE, WA, WL, aop, ofValue, ofCell, isConst, abin, acall1, abuiltin, aun, AV.cells, AV.one, Nat.reduceAdd, Int.reduceLT, Int.reduceLE, ↓WD, W0, evalOp, Nat.reduceEqDiff, Nat.reduceLT, ↓reduceIte, reduceCtorEq, hl, e0, e1, og3]
    refine ⟨rfl, ?_, ?_, ?_⟩ <;> simp only [List.length_set, W0, Nat.reduceEqDiff, Nat.reduceLT, ↓reduceIte, hl, e0, e1]) ?_
  rintro envg4 _ ⟨rfl, hl, e6, e7⟩
  try simp only [↓WD, W0, evalOp, Nat.reduceEqDiff, Nat.reduceLT, ↓reduceIte, reduceCtorEq, hl, e6, e7]
  rw [AW_region]
  have oc5 := fun g : AH => aconv_int (P := Try.prog) (h := g) (n := y2.1) (k' := .u64) Try.underlying24 Try.underlying3
  refine AE_joinR (fun e h' => h = h' ∧ e.length = 17 ∧ e.getD 4 .undef = .int .i64 (IntKind.i64.wrap y2.1) ∧ e.getD 5 .undef = .int .i64 y2.2) (by
    simp only [↓WE, WA, WL, aop, ofValue, ofCell, isConst, abin, acall1, abuiltin, aun, AV.cells, AV.one, Nat.reduceAdd, Int.reduceLT, Int.reduceLE, ↓WD, W0, evalOp, Nat.reduceEqDiff, Nat.reduceLT, ↓reduceIte, reduceCtorEq, hl, e6, e7, oc5]
    refine ⟨rfl, ?_, ?_, ?_⟩ <;> simp only [List.length_set, W0, Nat.reduceEqDiff, Nat.reduceLT, ↓reduceIte, hl, e6, e7]) ?_
  rintro envg6 _ ⟨rfl, hl, e4, e5⟩
  try simp only [↓WD, W0, evalOp, Nat.reduceEqDiff, Nat.reduceLT, ↓reduceIte, reduceCtorEq, hl, e4, e5]
  refine KP_ret (vs := [.int .i64 (IntKind.i64.wrap y2.1), .int .i64 y2.2]) (by simp only [aresults, aresult, gs, List.length_set, Nat.reduceEqDiff, Nat.reduceLT, ↓reduceIte, hl, e4, e5]) ?_
  obtain rfl := Option.some.inj hF
  exact rfl
theorem W_field_U32 {K : PureK} (k129 : K 129 = some kf_129) (n109 : K 109 = none) (m : Nat) (hm : NF + 1 ≤ m) (h : AH) (s_ : List UInt8) (at_ : Int) {r : Int × Int} (hF : F_field_U32 s_ at_ = some r) :
    AR (acall Try.prog (hooksOf K) (drawnOf Try.prog (tabOf K)) m 109 [.str s_, .int .i64 at_] h) (fun v h' => v = .tup [.int .i64 r.1, .int .i64 r.2]) := by
  obtain ⟨m, rfl⟩ : ∃ k, m = k + 1 := ⟨m - 1, by omega⟩
  refine AR_call (hooksOf_none n109) Try.func109 rfl _ _ fun env hl he => ?_
  have e0 := he 0
  have e1 := he 1
  simp only [List.getD_cons_zero, List.getD_cons_succ] at e0 e1
  simp only [Try.f109] at hl ⊢
  simp only [List.length_cons, List.length_nil, Nat.reduceAdd, Nat.reduceSub] at hl
  clear he
  have S0 : Sep h [] h [] := Sep.nil h
  rw [F_field_U32] at hF
  try simp only [↓WD, W0, evalOp, Nat.reduceEqDiff, Nat.reduceLT, ↓reduceIte, reduceCtorEq, hl, e0, e1]
  rw [AW_region]
  refine AE_joinR (fun e h' => h = h' ∧ e.length = 17 ∧ e.getD 0 .undef = .str s_ ∧ e.getD 1 .undef = .int .i64 at_) (by
    simp only [↓WE, WA, WL, aop, ofValue, ofCell, isConst, abin, acall1, abuiltin, aun, AV.cells, AV.one, Nat.reduceAdd, Int.reduceLT, Int.reduceLE, ↓WD, W0, evalOp, Nat.reduceEqDiff, Nat.reduceLT, ↓reduceIte, reduceCtorEq, hl, e0, e1]
    refine ⟨rfl, ?_, ?_, ?_⟩ <;> simp only [List.length_set, W0, Nat.reduceEqDiff, Nat.reduceLT, ↓reduceIte, hl, e0, e1]) ?_
  rintro envg1 _ ⟨rfl, hl, e0, e1⟩
  try simp only [↓WD, W0, evalOp, Nat.reduceEqDiff, Nat.reduceLT, ↓reduceIte, reduceCtorEq, hl, e0, e1]
  rw [AW_region]
  obtain ⟨y2, qy2, hF⟩ := obind hF
  have og3 := fun (D : Drawn) (n : Nat) (g : AH) => call_hook (P := Try.prog) (D := D) k129 n (args := [.str s_, .int .i64 at_, .int .i64 4]) (v := .tup [.int .u64 y2.1, .int .i64 y2.2]) ((kf_129_eq s_ at_ 4).trans (by rw [qy2]; rfl)) g
  refine AE_joinR (fun e h' => h = h' ∧ e.length = 17 ∧ e.getD 6 .undef = .int .u64 y2.1 ∧ e.getD 7 .undef = .int .i64 y2.2) (by
    simp only [↓WE, WA, WL, aop, ofValue, ofCell, isConst, abin, acall1, abuiltin, aun, AV.cells, AV.one, Nat.reduceAdd, Int.reduceLT, Int.reduceLE, ↓WD, W0, evalOp, Nat.reduceEqDiff, Nat.reduceLT, ↓reduceIte, reduceCtorEq, hl, e0, e1, og3]
    refine ⟨rfl, ?_, ?_, ?_⟩ <;> simp only [List.length_set, W0, Nat.reduceEqDiff, Nat.reduceLT, ↓reduceIte, hl, e0, e1]) ?_
  rintro envg4 _ ⟨rfl, hl, e6, e7⟩
  try simp only [↓WD, W0, evalOp, Nat.reduceEqDiff, Nat.reduceLT, ↓reduceIte, reduceCtorEq, hl, e6, e7]
  rw [AW_region]
  have oc5 := fun g : AH => aconv_int (P := Try.prog) (h := g) (n := y2.1) (k' := .u64) Try.underlying24 Try.underlying3
  refine AE_joinR (fun e h' => h = h' ∧ e.length = 17 ∧ e.getD 4 .undef = .int .i64 (IntKind.i64.wrap y2.1) ∧ e.getD 5 .undef = .int .i64 y2.2) (by
    simp only [↓WE, WA, WL, aop, ofValue, ofCell, isConst, abin, acall1, abuiltin, aun, AV.cells, AV.one, Nat.reduceAdd, Int.reduceLT, Int.reduceLE, ↓WD, W0, evalOp, Nat.reduceEqDiff, Nat.reduceLT, ↓reduceIte, reduceCtorEq, hl, e6, e7, oc5]
    refine ⟨rfl, ?_, ?_, ?_⟩ <;> simp only [List.length_set, W0, Nat.reduceEqDiff, Nat.reduceLT, ↓reduceIte, hl, e6, e7]) ?_
  rintro envg6 _ ⟨rfl, hl, e4, e5⟩
  try simp only [↓WD, W0, evalOp, Nat.reduceEqDiff, Nat.reduceLT, ↓reduceIte, reduceCtorEq, hl, e4, e5]
  refine KP_ret (vs := [.int .i64 (IntKind.i64.wrap y2.1), .int .i64 y2.2]) (by simp only [aresults, aresult, gs, List.length_set, Nat.reduceEqDiff, Nat.reduceLT, ↓reduceIte, hl, e4, e5]) ?_
  obtain rfl := Option.some.inj hF
  exact rfl
theorem W_field_U64 {K : PureK} (k129 : K 129 = some kf_129) (n131 : K 131 = none) (m : Nat) (hm : NF + 1 ≤ m) (h : AH) (s_ : List UInt8) (at_ : Int) {r : Int × Int} (hF : F_field_U64 s_ at_ = some r) :
    AR (acall Try.prog (hooksOf K) (drawnOf Try.prog (tabOf K)) m 131 [.str s_, .int .i64 at_] h) (fun v h' => v = .tup [.int .u64 r.1, .int .i64 r.2]) := by
  obtain ⟨m, rfl⟩ : ∃ k, m = k + 1 := ⟨m - 1, by omega⟩
  refine AR_call (hooksOf_none n131) Try.func131 rfl _ _ fun env hl he => ?_
  have e0 := he 0
  have e1 := he 1
  simp only [List.getD_cons_zero, List.getD_cons_succ] at e0 e1
  simp only [Try.f131] at hl ⊢
  simp only [List.length_cons, List.length_nil, Nat.reduceAdd, Nat.reduceSub] at hl
  clear he
  have S0 : Sep h [] h [] := Sep.nil h
  rw [F_field_U64] at hF
  try simp only [↓WD, W0, evalOp, Nat.reduceEqDiff, Nat.reduceLT, ↓reduceIte, reduceCtorEq, hl, e0, e1]
  rw [AW_region]
  refine AE_joinR (fun e h' => h = h' ∧ e.length = 11 ∧ e.getD 0 .undef = .str s_ ∧ e.getD 1 .undef = .int .i64 at_) (by
    simp only [↓WE, WA, WL, aop, ofValue, ofCell, isConst, abin, acall1, abuiltin, aun, AV.cells, AV.one, Nat.reduceAdd, Int.reduceLT, Int.reduceLE, ↓WD, W0, evalOp, Nat.reduceEqDiff, Nat.reduceLT, ↓reduceIte, reduceCtorEq, hl, e0, e1]
    refine ⟨rfl, ?_, ?_, ?_⟩ <;> simp only [List.length_set, W0, Nat.reduceEqDiff, Nat.reduceLT, ↓reduceIte, hl, e0, e1]) ?_
  rintro envg1 _ ⟨rfl, hl, e0, e1⟩
  try simp only [↓WD, W0, evalOp, Nat.reduceEqDiff, Nat.reduceLT, ↓reduceIte, reduceCtorEq, hl, e0, e1]
  rw [AW_region]
  obtain ⟨y2, qy2, hF⟩ := obind hF
  have og3 := fun (D : Drawn) (n : Nat) (g : AH) => call_hook (P := Try.prog) (D := D) k129 n (args := [.str s_, .int .i64 at_, .int .i64 8]) (v := .tup [.int .u64 y2.1, .int .i64 y2.2]) ((kf_129_eq s_ at_ 8).trans (by rw [qy2]; rfl)) g
  refine AE_joinR (fun e h' => h = h' ∧ e.length = 11 ∧ e.getD 4 .undef = .int .u64 y2.1 ∧ e.getD 5 .undef = .int .i64 y2.2) (by
    simp only [↓WE, WA, WL, aop, ofValue, ofCell, isConst, abin, acall1, abuiltin, aun, AV.cells, AV.one, Nat.reduceAdd, Int.reduceLT, Int.reduceLE, ↓WD, W0, evalOp, Nat.reduceEqDiff, Nat.reduceLT, ↓reduceIte, reduceCtorEq, hl, e0, e1, og3]
    refine ⟨rfl, ?_, ?_, ?_⟩ <;> simp only [List.length_set, W0, Nat.reduceEqDiff, Nat.reduceLT, ↓reduceIte, hl, e0, e1]) ?_
  rintro envg4 _ ⟨rfl, hl, e4, e5⟩
  try simp only [↓WD, W0, evalOp, Nat.reduceEqDiff, Nat.reduceLT, ↓reduceIte, reduceCtorEq, hl, e4, e5]
  refine KP_ret (vs := [.int .u64 y2.1, .int .i64 y2.2]) (by simp only [aresults, aresult, gs, List.length_set, Nat.reduceEqDiff, Nat.reduceLT, ↓reduceIte, hl, e4, e5]) ?_
  obtain rfl := Option.some.inj hF
  exact rfl
theorem W_field_P64 {K : PureK} (k117 : K 117 = some kf_117) (n133 : K 133 = none) (m : Nat) (hm : NF + 1 ≤ m) (h : AH) (n_ : Int) {r : (List UInt8)} (hF : F_field_P64 n_ = some r) :
    AR (acall Try.prog (hooksOf K) (drawnOf Try.prog (tabOf K)) m 133 [.int .u64 n_] h) (fun v h' => v = .str r) := by
  obtain ⟨m, rfl⟩ : ∃ k, m = k + 1 := ⟨m - 1, by omega⟩
  refine AR_call (hooksOf_none n133) Try.func133 rfl _ _ fun env hl he => ?_
  have e0 := he 0
  simp only [List.getD_cons_zero, List.getD_cons_succ] at e0
  simp only [Try.f133] at hl ⊢
  simp only [List.length_cons, List.length_nil, Nat.reduceAdd, Nat.reduceSub] at hl
  clear he
  have S0 : Sep h [] h [] := Sep.nil h
  rw [F_field_P64] at hF
  try simp only [↓WD, W0, evalOp, Nat.reduceEqDiff, Nat.reduceLT, ↓reduceIte, reduceCtorEq, hl, e0]
  rw [AW_region]
  refine AE_joinR (fun e h' => h = h' ∧ e.length = 5 ∧ e.getD 0 .undef = .int .u64 n_) (by
    simp only [↓WE, WA, WL, aop, ofValue, ofCell, isConst, abin, acall1, abuiltin, aun, AV.cells, AV.one, Nat.reduceAdd, Int.reduceLT, Int.reduceLE, ↓WD, W0, evalOp, Nat.reduceEqDiff, Nat.reduceLT, ↓reduceIte, reduceCtorEq, hl, e0]
    refine ⟨rfl, ?_, ?_⟩ <;> simp only [List.length_set, W0, Nat.reduceEqDiff, Nat.reduceLT, ↓reduceIte, hl, e0]) ?_
  rintro envg1 _ ⟨rfl, hl, e0⟩
  try simp only [↓WD, W0, evalOp, Nat.reduceEqDiff, Nat.reduceLT, ↓reduceIte, reduceCtorEq, hl, e0]
  rw [AW_region]
  obtain ⟨y2, qy2, hF⟩ := obind hF
  have og3 := fun (D : Drawn) (n : Nat) (g : AH) => call_hook (P := Try.prog) (D := D) k117 n (args := [.int .u64 n_, .int .i64 8]) (v := .str y2) ((kf_117_eq n_ 8).trans (by rw [qy2]; rfl)) g
  refine AE_joinR (fun e h' => h = h' ∧ e.length = 5 ∧ e.getD 2 .undef = .str y2) (by
    simp only [↓WE, WA, WL, aop, ofValue, ofCell, isConst, abin, acall1, abuiltin, aun, AV.cells, AV.one, Nat.reduceAdd, Int.reduceLT, Int.reduceLE, ↓WD, W0, evalOp, Nat.reduceEqDiff, Nat.reduceLT, ↓reduceIte, reduceCtorEq, hl, e0, og3]
    refine ⟨rfl, ?_, ?_⟩ <;> simp only [List.length_set, W0, Nat.reduceEqDiff, Nat.reduceLT, ↓reduceIte, hl, e0]) ?_
  rintro envg4 _ ⟨rfl, hl, e2⟩
  try simp only [↓WD, W0, evalOp, Nat.reduceEqDiff, Nat.reduceLT, ↓reduceIte, reduceCtorEq, hl, e2]
  refine KP_ret (vs := [.str y2]) (by simp only [aresults, aresult, gs, List.length_set, Nat.reduceEqDiff, Nat.reduceLT, ↓reduceIte, hl, e2]) ?_
  obtain rfl := Option.some.inj hF
  exact rfl
theorem W_ref02_Cut {K : PureK} (n74 : K 74 = none) (m : Nat) (hm : NF + 1 ≤ m) (h : AH) (s_ : List UInt8) (at_ : Int) (n_ : Int) {r : (List UInt8) × Int} (hF : F_ref02_Cut s_ at_ n_ = some r) :
    AR (acall Try.prog (hooksOf K) (drawnOf Try.prog (tabOf K)) m 74 [.str s_, .int .i64 at_, .int .i64 n_] h) (fun v h' => v = .tup [.str r.1, .int .i64 r.2]) := by
  obtain ⟨m, rfl⟩ : ∃ k, m = k + 1 := ⟨m - 1, by omega⟩
  refine AR_call (hooksOf_none n74) Try.func74 rfl _ _ fun env hl he => ?_
  have e0 := he 0
  have e1 := he 1
  have e2 := he 2
  simp only [List.getD_cons_zero, List.getD_cons_succ] at e0 e1 e2
  simp only [Try.f74] at hl ⊢
  simp only [List.length_cons, List.length_nil, Nat.reduceAdd, Nat.reduceSub] at hl
  clear he
  have S0 : Sep h [] h [] := Sep.nil h
  rw [F_ref02_Cut] at hF
  try simp only [↓WD, W0, evalOp, Nat.reduceEqDiff, Nat.reduceLT, ↓reduceIte, reduceCtorEq, hl, e0, e1, e2]
  rw [AW_region]
  refine AE_joinR (fun e h' => h = h' ∧ e.length = 34 ∧ e.getD 0 .undef = .str s_ ∧ e.getD 1 .undef = .int .i64 at_ ∧ e.getD 2 .undef = .int .i64 n_) (by
    simp only [↓WE, WA, WL, aop, ofValue, ofCell, isConst, abin, acall1, abuiltin, aun, AV.cells, AV.one, Nat.reduceAdd, Int.reduceLT, Int.reduceLE, ↓WD, W0, evalOp, Nat.reduceEqDiff, Nat.reduceLT, ↓reduceIte, reduceCtorEq, hl, e0, e1, e2]
    refine ⟨rfl, ?_, ?_, ?_, ?_⟩ <;> simp only [List.length_set, W0, Nat.reduceEqDiff, Nat.reduceLT, ↓reduceIte, hl, e0, e1, e2]) ?_
  rintro envg1 _ ⟨rfl, hl, e0, e1, e2⟩
  try simp only [↓WD, W0, evalOp, Nat.reduceEqDiff, Nat.reduceLT, ↓reduceIte, reduceCtorEq, hl, e0, e1, e2]
  rw [AW_region]
  obtain ⟨j13, qj13, hF⟩ := obind hF
  refine AE_joinR (fun e h' => e.length = 34 ∧ e.getD 0 .undef = .str s_ ∧ e.getD 1 .undef = .int .i64 at_ ∧ e.getD 2 .undef = .int .i64 n_ ∧ e.getD 27 .undef = .bool j13 ∧ Sep h [] h' []) ?_ ?_
  · simp only [↓WE, WA, WL, aop, ofValue, ofCell, isConst, abin, acall1, abuiltin, aun, AV.cells, AV.one, Nat.reduceAdd, Int.reduceLT, Int.reduceLE, ↓WD, W0, evalOp, Nat.reduceEqDiff, Nat.reduceLT, ↓reduceIte, reduceCtorEq, hl, e0, e1, e2]
    refine GuardW_dec (fun c2 => ?_) (fun c2 => ?_)
    · rw [if_pos c2] at qj13
      have d3 : (decide (at_ < 0)) = true := decide_eq_true c2
      simp only [↓WE, WA, WL, aop, ofValue, ofCell, isConst, abin, acall1, abuiltin, aun, AV.cells, AV.one, Nat.reduceAdd, Int.reduceLT, Int.reduceLE, ↓WD, W0, evalOp, Nat.reduceEqDiff, Nat.reduceLT, ↓reduceIte, reduceCtorEq, hl, e0, e1, e2, d3]
      obtain rfl := Option.some.inj qj13
      refine ⟨?_, ?_, ?_, ?_, ?_, S0⟩ <;> simp only [List.length_set, W0, Nat.reduceEqDiff, Nat.reduceLT, ↓reduceIte, hl, e0, e1, e2]
    · rw [if_neg c2] at qj13
      have d4 : (decide (at_ < 0)) = false := decide_eq_false c2
      simp only [↓WE, WA, WL, aop, ofValue, ofCell, isConst, abin, acall1, abuiltin, aun, AV.cells, AV.one, Nat.reduceAdd, Int.reduceLT, Int.reduceLE, ↓WD, W0, evalOp, Nat.reduceEqDiff, Nat.reduceLT, ↓reduceIte, reduceCtorEq, hl, e0, e1, e2, d4]
      refine GuardW_dec (fun c5 => ?_) (fun c5 => ?_)
      · rw [if_pos c5] at qj13
        have d6 : (decide (n_ < 0)) = true := decide_eq_true c5
        simp only [↓WE, WA, WL, aop, ofValue, ofCell, isConst, abin, acall1, abuiltin, aun, AV.cells, AV.one, Nat.reduceAdd, Int.reduceLT, Int.reduceLE, ↓WD, W0, evalOp, Nat.reduceEqDiff, Nat.reduceLT, ↓reduceIte, reduceCtorEq, hl, e0, e1, e2, d4, d6]
        obtain rfl := Option.some.inj qj13
        refine ⟨?_, ?_, ?_, ?_, ?_, S0⟩ <;> simp only [List.length_set, W0, Nat.reduceEqDiff, Nat.reduceLT, ↓reduceIte, hl, e0, e1, e2]
      · rw [if_neg c5] at qj13
        have d7 : (decide (n_ < 0)) = false := decide_eq_false c5
        have ol8 := fun g : AH => alen_str (P := Try.prog) (h := g) (l := s_) Try.underlying9
        simp only [↓WE, WA, WL, aop, ofValue, ofCell, isConst, abin, acall1, abuiltin, aun, AV.cells, AV.one, Nat.reduceAdd, Int.reduceLT, Int.reduceLE, ↓WD, W0, evalOp, Nat.reduceEqDiff, Nat.reduceLT, ↓reduceIte, reduceCtorEq, hl, e0, e1, e2, ol8, d4, d7]
        refine GuardW_dec (fun c9 => ?_) (fun c9 => ?_)
        · rw [if_pos c9] at qj13
          have d10 : (decide (at_ > (s_.length : Int))) = true := decide_eq_true c9
          simp only [↓WE, WA, WL, aop, ofValue, ofCell, isConst, abin, acall1, abuiltin, aun, AV.cells, AV.one, Nat.reduceAdd, Int.reduceLT, Int.reduceLE, ↓WD, W0, evalOp, Nat.reduceEqDiff, Nat.reduceLT, ↓reduceIte, reduceCtorEq, hl, e0, e1, e2, ol8, d4, d7, d10]
          obtain rfl := Option.some.inj qj13
          refine ⟨?_, ?_, ?_, ?_, ?_, S0⟩ <;> simp only [List.length_set, W0, Nat.reduceEqDiff, Nat.reduceLT, ↓reduceIte, hl, e0, e1, e2]
        · rw [if_neg c9] at qj13
          have d11 : (decide (at_ > (s_.length : Int))) = false := decide_eq_false c9
          have ol12 := fun g : AH => alen_str (P := Try.prog) (h := g) (l := s_) Try.underlying9
          simp only [↓WE, WA, WL, aop, ofValue, ofCell, isConst, abin, acall1, abuiltin, aun, AV.cells, AV.one, Nat.reduceAdd, Int.reduceLT, Int.reduceLE, ↓WD, W0, evalOp, Nat.reduceEqDiff, Nat.reduceLT, ↓reduceIte, reduceCtorEq, hl, e0, e1, e2, ol8, ol12, d4, d7, d11]
          obtain rfl := Option.some.inj qj13
          refine ⟨?_, ?_, ?_, ?_, ?_, S0⟩ <;> simp only [List.length_set, W0, Nat.reduceEqDiff, Nat.reduceLT, ↓reduceIte, hl, e0, e1, e2]
  · rintro envj13 h15 ⟨hl, e0, e1, e2, e27, S14⟩
    try simp only [↓WD, W0, evalOp, Nat.reduceEqDiff, Nat.reduceLT, ↓reduceIte, reduceCtorEq, hl, e0, e1, e2, e27]
    refine CondK_boo (fun c18 => ?_) (fun c18 => ?_)
    · rw [if_pos c18] at hF
      try simp only [↓WD, W0, evalOp, Nat.reduceEqDiff, Nat.reduceLT, ↓reduceIte, reduceCtorEq, hl, e0, e1, e2, e27]
      rw [AW_region]
      refine AE_joinR (fun e h' => h15 = h' ∧ e.length = 34 ∧ e.getD 6 .undef = .str [] ∧ e.getD 7 .undef = .int .i64 3) (by
        simp only [↓WE, WA, WL, aop, ofValue, ofCell, isConst, abin, acall1, abuiltin, aun, AV.cells, AV.one, Nat.reduceAdd, Int.reduceLT, Int.reduceLE, ↓WD, W0, evalOp, Nat.reduceEqDiff, Nat.reduceLT, ↓reduceIte, reduceCtorEq, hl, e0, e1, e2, e27]
        refine ⟨rfl, ?_, ?_, ?_⟩ <;> simp only [List.length_set, W0, Nat.reduceEqDiff, Nat.reduceLT, ↓reduceIte, hl, e0, e1, e2, e27]) ?_
      rintro envg19 _ ⟨rfl, hl, e6, e7⟩
      try simp only [↓WD, W0, evalOp, Nat.reduceEqDiff, Nat.reduceLT, ↓reduceIte, reduceCtorEq, hl, e6, e7]
      refine KP_ret (vs := [.str [], .int .i64 3]) (by simp only [aresults, aresult, gs, List.length_set, Nat.reduceEqDiff, Nat.reduceLT, ↓reduceIte, hl, e6, e7]) ?_
      obtain rfl := Option.some.inj hF
      exact rfl
    · rw [if_neg (nf c18)] at hF
      try simp only [↓WD, W0, evalOp, Nat.reduceEqDiff, Nat.reduceLT, ↓reduceIte, reduceCtorEq, hl, e0, e1, e2, e27]
      rw [AW_region]
      obtain ⟨s20, qs20, hF⟩ := obind hF
      have os20 := fun g : AH => sub_str (P := Try.prog) (h := g) (k := .i64) (k' := .i64) Try.underlying9 qs20
      refine AE_joinR (fun e h' => h15 = h' ∧ e.length = 34 ∧ e.getD 6 .undef = .str s20 ∧ e.getD 7 .undef = .int .i64 0) (by
        simp only [↓WE, WA, WL, aop, ofValue, ofCell, isConst, abin, acall1, abuiltin, aun, AV.cells, AV.one, Nat.reduceAdd, Int.reduceLT, Int.reduceLE, ↓WD, W0, evalOp, Nat.reduceEqDiff, Nat.reduceLT, ↓reduceIte, reduceCtorEq, hl, e0, e1, e2, e27, os20]
        refine ⟨rfl, ?_, ?_, ?_⟩ <;> simp only [List.length_set, W0, Nat.reduceEqDiff, Nat.reduceLT, ↓reduceIte, hl, e0, e1, e2, e27]) ?_
      rintro envg21 _ ⟨rfl, hl, e6, e7⟩
      try simp only [↓WD, W0, evalOp, Nat.reduceEqDiff, Nat.reduceLT, ↓reduceIte, reduceCtorEq, hl, e6, e7]
      refine KP_ret (vs := [.str s20, .int .i64 0]) (by simp only [aresults, aresult, gs, List.length_set, Nat.reduceEqDiff, Nat.reduceLT, ↓reduceIte, hl, e6, e7]) ?_
      obtain rfl := Option.some.inj hF
      exact rfl
theorem W_ref02_Num {K : PureK} (k74 : K 74 = some kf_74) (n112 : K 112 = none) (m : Nat) (hm : NF + 1 ≤ m) (h : AH) (s_ : List UInt8) (at_ : Int) (n_ : Int) {r : Int × Int} (hF : F_ref02_Num s_ at_ n_ = some r) :
    AR (acall Try.prog (hooksOf K) (drawnOf Try.prog (tabOf K)) m 112 [.str s_, .int .i64 at_, .int .i64 n_] h) (fun v h' => v = .tup [.int .u64 r.1, .int .i64 r.2]) := by
  obtain ⟨m, rfl⟩ : ∃ k, m = k + 1 := ⟨m - 1, by omega⟩
  refine AR_call (hooksOf_none n112) Try.func112 rfl _ _ fun env hl he => ?_
  have e0 := he 0
  have e1 := he 1
  have e2 := he 2
  simp only [List.getD_cons_zero, List.getD_cons_succ] at e0 e1 e2
  simp only [Try.f112] at hl ⊢
  simp only [List.length_cons, List.length_nil, Nat.reduceAdd, Nat.reduceSub] at hl
  clear he
  have S0 : Sep h [] h [] := Sep.nil h
  rw [F_ref02_Num] at hF
  try simp only [↓WD, W0, evalOp, Nat.reduceEqDiff, Nat.reduceLT, ↓reduceIte, reduceCtorEq, hl, e0, e1, e2]
  rw [AW_region]
  refine AE_joinR (fun e h' => h = h' ∧ e.length = 35 ∧ e.getD 0 .undef = .str s_ ∧ e.getD 1 .undef = .int .i64 at_ ∧ e.getD 2 .undef = .int .i64 n_) (by
    simp only [↓WE, WA, WL, aop, ofValue, ofCell, isConst, abin, acall1, abuiltin, aun, AV.cells, AV.one, Nat.reduceAdd, Int.reduceLT, Int.reduceLE, ↓WD, W0, evalOp, Nat.reduceEqDiff, Nat.reduceLT, ↓reduceIte, reduceCtorEq, hl, e0, e1, e2]
    refine ⟨rfl, ?_, ?_, ?_, ?_⟩ <;> simp only [List.length_set, W0, Nat.reduceEqDiff, Nat.reduceLT, ↓reduceIte, hl, e0, e1, e2]) ?_
  rintro envg1 _ ⟨rfl, hl, e0, e1, e2⟩
  try simp only [↓WD, W0, evalOp, Nat.reduceEqDiff, Nat.reduceLT, ↓reduceIte, reduceCtorEq, hl, e0, e1, e2]
  rw [AW_region]
  obtain ⟨y2, qy2, hF⟩ := obind hF
  have og3 := fun (D : Drawn) (n : Nat) (g : AH) => call_hook (P := Try.prog) (D := D) k74 n (args := [.str s_, .int .i64 at_, .int .i64 n_]) (v := .tup [.str y2.1, .int .i64 y2.2]) ((kf_74_eq s_ at_ n_).trans (by rw [qy2]; rfl)) g
  refine AE_joinR (fun e h' => h = h' ∧ e.length = 35 ∧ e.getD 8 .undef = .str y2.1 ∧ e.getD 9 .undef = .int .i64 y2.2) (by
    simp only [↓WE, WA, WL, aop, ofValue, ofCell, isConst, abin, acall1, abuiltin, aun, AV.cells, AV.one, Nat.reduceAdd, Int.reduceLT, Int.reduceLE, ↓WD, W0, evalOp, Nat.reduceEqDiff, Nat.reduceLT, ↓reduceIte, reduceCtorEq, hl, e0, e1, e2, og3]
    refine ⟨rfl, ?_, ?_, ?_⟩ <;> simp only [List.length_set, W0, Nat.reduceEqDiff, Nat.reduceLT, ↓reduceIte, hl, e0, e1, e2]) ?_
  rintro envg4 _ ⟨rfl, hl, e8, e9⟩
  try simp only [↓WD, W0, evalOp, Nat.reduceEqDiff, Nat.reduceLT, ↓reduceIte, reduceCtorEq, hl, e8, e9]
  rw [AW_region]
  refine AE_joinR (fun e h' => h = h' ∧ e.length = 35 ∧ e.getD 8 .undef = .str y2.1 ∧ e.getD 9 .undef = .int .i64 y2.2 ∧ e.getD 10 .undef = .int .u64 0) (by
    simp only [↓WE, WA, WL, aop, ofValue, ofCell, isConst, abin, acall1, abuiltin, aun, AV.cells, AV.one, Nat.reduceAdd, Int.reduceLT, Int.reduceLE, ↓WD, W0, evalOp, Nat.reduceEqDiff, Nat.reduceLT, ↓reduceIte, reduceCtorEq, hl, e8, e9]
    refine ⟨rfl, ?_, ?_, ?_, ?_⟩ <;> simp only [List.length_set, W0, Nat.reduceEqDiff, Nat.reduceLT, ↓reduceIte, hl, e8, e9]) ?_
  rintro envg5 _ ⟨rfl, hl, e8, e9, e10⟩
  try simp only [↓WD, W0, evalOp, Nat.reduceEqDiff, Nat.reduceLT, ↓reduceIte, reduceCtorEq, hl, e8, e9, e10]
  rw [AW_region]
  have ol6 := fun g : AH => alen_str (P := Try.prog) (h := g) (l := y2.1) Try.underlying9
  refine AE_joinR (fun e h' => h = h' ∧ e.length = 35 ∧ e.getD 8 .undef = .str y2.1 ∧ e.getD 9 .undef = .int .i64 y2.2 ∧ e.getD 10 .undef = .int .u64 0 ∧ e.getD 11 .undef = .int .i64 (IntKind.i64.wrap ((y2.1.length : Int) - 1))) (by
    simp only [↓WE, WA, WL, aop, ofValue, ofCell, isConst, abin, acall1, abuiltin, aun, AV.cells, AV.one, Nat.reduceAdd, Int.reduceLT, Int.reduceLE, ↓WD, W0, evalOp, Nat.reduceEqDiff, Nat.reduceLT, ↓reduceIte, reduceCtorEq, hl, e8, e9, e10, ol6]
    refine ⟨rfl, ?_, ?_, ?_, ?_, ?_⟩ <;> simp only [List.length_set, W0, Nat.reduceEqDiff, Nat.reduceLT, ↓reduceIte, hl, e8, e9, e10]) ?_
  rintro envg7 _ ⟨rfl, hl, e8, e9, e10, e11⟩
  try simp only [↓WD, W0, evalOp, Nat.reduceEqDiff, Nat.reduceLT, ↓reduceIte, reduceCtorEq, hl, e8, e9, e10, e11]
  obtain ⟨r26, qr26, hF⟩ := obind hF
  refine AW_lift (L_ref02_Num_1 y2) (fun s e h' => e.length = 35 ∧ e.getD 8 .undef = .str y2.1 ∧ e.getD 9 .undef = .int .i64 y2.2 ∧ e.getD 10 .undef = .int .u64 s.1 ∧ e.getD 11 .undef = .int .i64 s.2 ∧ Sep h [] h' []) (fun r26 x e h' => x = .exit 0 ∧ e.length = 35 ∧ e.getD 9 .undef = .int .i64 y2.2 ∧ e.getD 10 .undef = .int .u64 r26 ∧ Sep h [] h' []) qr26 (by omega) ?_ ?_ ?_
  · rintro s envr26 h17 or26 ⟨hl, e8, e9, e10, e11, S18⟩ wr26
    rw [L_ref02_Num_1] at wr26
    try simp only [↓WD, W0, evalOp, Nat.reduceEqDiff, Nat.reduceLT, ↓reduceIte, reduceCtorEq, hl, e8, e9, e10, e11]
    rw [AW_region]
    refine AE_joinR (fun e h' => h17 = h' ∧ e.length = 35 ∧ e.getD 8 .undef = .str y2.1 ∧ e.getD 9 .undef = .int .i64 y2.2 ∧ e.getD 10 .undef = .int .u64 s.1 ∧ e.getD 11 .undef = .int .i64 s.2 ∧ e.getD 23 .undef = .bool (decide (s.2 ≥ 0))) (by
      simp only [↓WE, WA, WL, aop, ofValue, ofCell, isConst, abin, acall1, abuiltin, aun, AV.cells, AV.one, Nat.reduceAdd, Int.reduceLT, Int.reduceLE, ↓WD, W0, evalOp, Nat.reduceEqDiff, Nat.reduceLT, ↓reduceIte, reduceCtorEq, hl, e8, e9, e10, e11]
      refine ⟨rfl, ?_, ?_, ?_, ?_, ?_, ?_⟩ <;> simp only [List.length_set, W0, Nat.reduceEqDiff, Nat.reduceLT, ↓reduceIte, hl, e8, e9, e10, e11]) ?_
    rintro envg19 _ ⟨rfl, hl, e8, e9, e10, e11, e23⟩
    try simp only [↓WD, W0, evalOp, Nat.reduceEqDiff, Nat.reduceLT, ↓reduceIte, reduceCtorEq, hl, e8, e9, e10, e11, e23]
    refine CondK_dec (fun c21 => ?_) (fun c21 => ?_)
    · rw [if_pos c21] at wr26
      try simp only [↓WD, W0, evalOp, Nat.reduceEqDiff, Nat.reduceLT, ↓reduceIte, reduceCtorEq, hl, e8, e9, e10, e11, e23]
      rw [AW_region]
      obtain ⟨c22, qc22, wr26⟩ := obind wr26
      have oc22 := idx_str (P := Try.prog) (k := .i64) Try.underlying9 qc22
      have oc23 := fun g : AH => aconv_int (P := Try.prog) (h := g) (n := c22) (k' := .u8) Try.underlying5 Try.underlying24
      refine AE_joinR (fun e h' => h17 = h' ∧ e.length = 35 ∧ e.getD 8 .undef = .str y2.1 ∧ e.getD 9 .undef = .int .i64 y2.2 ∧ e.getD 10 .undef = .int .u64 (IntKind.u64.wrap ((IntKind.u64.wrap (256 * s.1)) + (IntKind.u64.wrap c22))) ∧ e.getD 11 .undef = .int .i64 s.2) (by
        simp only [↓WE, WA, WL, aop, ofValue, ofCell, isConst, abin, acall1, abuiltin, aun, AV.cells, AV.one, Nat.reduceAdd, Int.reduceLT, Int.reduceLE, ↓WD, W0, evalOp, Nat.reduceEqDiff, Nat.reduceLT, ↓reduceIte, reduceCtorEq, hl, e8, e9, e10, e11, e23, oc22, oc23]
        refine ⟨rfl, ?_, ?_, ?_, ?_, ?_⟩ <;> simp only [List.length_set, W0, Nat.reduceEqDiff, Nat.reduceLT, ↓reduceIte, hl, e8, e9, e10, e11, e23]) ?_
      rintro envg24 _ ⟨rfl, hl, e8, e9, e10, e11⟩
      try simp only [↓WD, W0, evalOp, Nat.reduceEqDiff, Nat.reduceLT, ↓reduceIte, reduceCtorEq, hl, e8, e9, e10, e11]
      rw [AW_region]
      refine AE_joinR (fun e h' => h17 = h' ∧ e.length = 35 ∧ e.getD 8 .undef = .str y2.1 ∧ e.getD 9 .undef = .int .i64 y2.2 ∧ e.getD 10 .undef = .int .u64 (IntKind.u64.wrap ((IntKind.u64.wrap (256 * s.1)) + (IntKind.u64.wrap c22))) ∧ e.getD 11 .undef = .int .i64 (IntKind.i64.wrap (s.2 - 1))) (by
        simp only [↓WE, WA, WL, aop, ofValue, ofCell, isConst, abin, acall1, abuiltin, aun, AV.cells, AV.one, Nat.reduceAdd, Int.reduceLT, Int.reduceLE, ↓WD, W0, evalOp, Nat.reduceEqDiff, Nat.reduceLT, ↓reduceIte, reduceCtorEq, hl, e8, e9, e10, e11]
        refine ⟨rfl, ?_, ?_, ?_, ?_, ?_⟩ <;> simp only [List.length_set, W0, Nat.reduceEqDiff, Nat.reduceLT, ↓reduceIte, hl, e8, e9, e10, e11]) ?_
      rintro envg25 _ ⟨rfl, hl, e8, e9, e10, e11⟩
      try simp only [↓WD, W0, evalOp, Nat.reduceEqDiff, Nat.reduceLT, ↓reduceIte, reduceCtorEq, hl, e8, e9, e10, e11]
      obtain rfl := Option.some.inj wr26
      rw [KP_nil, QL_normal]
      refine ⟨_, rfl, ?_, ?_, ?_, ?_, ?_, S18⟩ <;> simp only [List.length_set, W0, Nat.reduceEqDiff, Nat.reduceLT, ↓reduceIte, hl, e8, e9, e10, e11]
    · rw [if_neg c21] at wr26
      try simp only [↓WD, W0, evalOp, Nat.reduceEqDiff, Nat.reduceLT, ↓reduceIte, reduceCtorEq, hl, e8, e9, e10, e11, e23]
      obtain rfl := Option.some.inj wr26
      rw [KP_nil, QL_exit]
      refine ⟨_, rfl, rfl, ?_, ?_, ?_, S18⟩ <;> simp only [List.length_set, W0, Nat.reduceEqDiff, Nat.reduceLT, ↓reduceIte, hl, e8, e9, e10, e11, e23]
  · refine ⟨?_, ?_, ?_, ?_, ?_, S0⟩ <;> simp only [List.length_set, W0, Nat.reduceEqDiff, Nat.reduceLT, ↓reduceIte, hl, e8, e9, e10, e11]
  · rintro x envr26 h27 ⟨rfl, hl, e9, e10, S28⟩
    try simp only [↓WD, W0, evalOp, Nat.reduceEqDiff, Nat.reduceLT, ↓reduceIte, reduceCtorEq, hl, e9, e10]
    rw [AW_region]
    refine AE_joinR (fun e h' => h27 = h' ∧ e.length = 35 ∧ e.getD 6 .undef = .int .u64 r26 ∧ e.getD 7 .undef = .int .i64 y2.2) (by
      simp only [↓WE, WA, WL, aop, ofValue, ofCell, isConst, abin, acall1, abuiltin, aun, AV.cells, AV.one, Nat.reduceAdd, Int.reduceLT, Int.reduceLE, ↓WD, W0, evalOp, Nat.reduceEqDiff, Nat.reduceLT, ↓reduceIte, reduceCtorEq, hl, e9, e10]
      refine ⟨rfl, ?_, ?_, ?_⟩ <;> simp only [List.length_set, W0, Nat.reduceEqDiff, Nat.reduceLT, ↓reduceIte, hl, e9, e10]) ?_
    rintro envg29 _ ⟨rfl, hl, e6, e7⟩
    try simp only [↓WD, W0, evalOp, Nat.reduceEqDiff, Nat.reduceLT, ↓reduceIte, reduceCtorEq, hl, e6, e7]
    refine KP_ret (vs := [.int .u64 r26, .int .i64 y2.2]) (by simp only [aresults, aresult, gs, List.length_set, Nat.reduceEqDiff, Nat.reduceLT, ↓reduceIte, hl, e6, e7]) ?_
    obtain rfl := Option.some.inj hF
    exact rfl
theorem W_ref02_U16 {K : PureK} (k112 : K 112 = some kf_112) (n76 : K 76 = none) (m : Nat) (hm : NF + 1 ≤ m) (h : AH) (s_ : List UInt8) (at_ : Int) {r : Int} (hF : F_ref02_U16 s_ at_ = some r) :
    AR (acall Try.prog (hooksOf K) (drawnOf Try.prog (tabOf K)) m 76 [.str s_, .int .i64 at_] h) (fun v h' => v = .int .i64 r) := by
  obtain ⟨m, rfl⟩ : ∃ k, m = k + 1 := ⟨m - 1, by omega⟩
  refine AR_call (hooksOf_none n76) Try.func76 rfl _ _ fun env hl he => ?_
  have e0 := he 0
  have e1 := he 1
  simp only [List.getD_cons_zero, List.getD_cons_succ] at e0 e1
  simp only [Try.f76] at hl ⊢
  simp only [List.length_cons, List.length_nil, Nat.reduceAdd, Nat.reduceSub] at hl
  clear he
  have S0 : Sep h [] h [] := Sep.nil h
  rw [F_ref02_U16] at hF
  try simp only [↓WD, W0, evalOp, Nat.reduceEqDiff, Nat.reduceLT, ↓reduceIte, reduceCtorEq, hl, e0, e1]
  rw [AW_region]
  refine AE_joinR (fun e h' => h = h' ∧ e.length = 15 ∧ e.getD 0 .undef = .str s_ ∧ e.getD 1 .undef = .int .i64 at_) (by
    simp only [↓WE, WA, WL, aop, ofValue, ofCell, isConst, abin, acall1, abuiltin, aun, AV.cells, AV.one, Nat.reduceAdd, Int.reduceLT, Int.reduceLE, ↓WD, W0, evalOp, Nat.reduceEqDiff, Nat.reduceLT, ↓reduceIte, reduceCtorEq, hl, e0, e1]
    refine ⟨rfl, ?_, ?_, ?_⟩ <;> simp only [List.length_set, W0, Nat.reduceEqDiff, Nat.reduceLT, ↓reduceIte, hl, e0, e1]) ?_
  rintro envg1 _ ⟨rfl, hl, e0, e1⟩
  try simp only [↓WD, W0, evalOp, Nat.reduceEqDiff, Nat.reduceLT, ↓reduceIte, reduceCtorEq, hl, e0, e1]
  rw [AW_region]
  obtain ⟨y2, qy2, hF⟩ := obind hF
  have og3 := fun (D : Drawn) (n : Nat) (g : AH) => call_hook (P := Try.prog) (D := D) k112 n (args := [.str s_, .int .i64 at_, .int .i64 2]) (v := .tup [.int .u64 y2.1, .int .i64 y2.2]) ((kf_112_eq s_ at_ 2).trans (by rw [qy2]; rfl)) g
  refine AE_joinR (fun e h' => h = h' ∧ e.length = 15 ∧ e.getD 5 .undef = .int .u64 y2.1) (by
    simp only [↓WE, WA, WL, aop, ofValue, ofCell, isConst, abin, acall1, abuiltin, aun, AV.cells, AV.one, Nat.reduceAdd, Int.reduceLT, Int.reduceLE, ↓WD, W0, evalOp, Nat.reduceEqDiff, Nat.reduceLT, ↓reduceIte, reduceCtorEq, hl, e0, e1, og3]
    refine ⟨rfl, ?_, ?_⟩ <;> simp only [List.length_set, W0, Nat.reduceEqDiff, Nat.reduceLT, ↓reduceIte, hl, e0, e1]) ?_
  rintro envg4 _ ⟨rfl, hl, e5⟩
  try simp only [↓WD, W0, evalOp, Nat.reduceEqDiff, Nat.reduceLT, ↓reduceIte, reduceCtorEq, hl, e5]
  rw [AW_region]
  have oc5 := fun g : AH => aconv_int (P := Try.prog) (h := g) (n := y2.1) (k' := .u64) Try.underlying24 Try.underlying3
  refine AE_joinR (fun e h' => h = h' ∧ e.length = 15 ∧ e.getD 4 .undef = .int .i64 (IntKind.i64.wrap y2.1)) (by
    simp only [↓WE, WA, WL, aop, ofValue, ofCell, isConst, abin, acall1, abuiltin, aun, AV.cells, AV.one, Nat.reduceAdd, Int.reduceLT, Int.reduceLE, ↓WD, W0, evalOp, Nat.reduceEqDiff, Nat.reduceLT, ↓reduceIte, reduceCtorEq, hl, e5, oc5]
    refine ⟨rfl, ?_, ?_⟩ <;> simp only [List.length_set, W0, Nat.reduceEqDiff, Nat.reduceLT, ↓reduceIte, hl, e5]) ?_
  rintro envg6 _ ⟨rfl, hl, e4⟩
  try simp only [↓WD, W0, evalOp, Nat.reduceEqDiff, Nat.reduceLT, ↓reduceIte, reduceCtorEq, hl, e4]
  refine KP_ret (vs := [.int .i64 (IntKind.i64.wrap y2.1)]) (by simp only [aresults, aresult, gs, List.length_set, Nat.reduceEqDiff, Nat.reduceLT, ↓reduceIte, hl, e4]) ?_
  obtain rfl := Option.some.inj hF
  exact rfl
theorem W_ref02_U32 {K : PureK} (k112 : K 112 = some kf_112) (n75 : K 75 = none) (m : Nat) (hm : NF + 1 ≤ m) (h : AH) (s_ : List UInt8) (at_ : Int) {r : Int} (hF : F_ref02_U32 s_ at_ = some r) :
    AR (acall Try.prog (hooksOf K) (drawnOf Try.prog (tabOf K)) m 75 [.str s_, .int .i64 at_] h) (fun v h' => v = .int .i64 r) := by
  obtain ⟨m, rfl⟩ : ∃ k, m = k + 1 := ⟨m - 1, by omega⟩
  refine AR_call (hooksOf_none n75) Try.func75 rfl _ _ fun env hl he => ?_
  have e0 := he 0
  have e1 := he 1
  simp only [List.getD_cons_zero, List.getD_cons_succ] at e0 e1
  simp only [Try.f75] at hl ⊢
  simp only [List.length_cons, List.length_nil, Nat.reduceAdd, Nat.reduceSub] at hl
  clear he
  have S0 : Sep h [] h [] := Sep.nil h
  rw [F_ref02_U32] at hF
  try simp only [↓WD, W0, evalOp, Nat.reduceEqDiff, Nat.reduceLT, ↓reduceIte, reduceCtorEq, hl, e0, e1]
  rw [AW_region]
  refine AE_joinR (fun e h' => h = h' ∧ e.length = 15 ∧ e.getD 0 .undef = .str s_ ∧ e.getD 1 .undef = .int .i64 at_) (by
    simp only [↓WE, WA, WL, aop, ofValue, ofCell, isConst, abin, acall1, abuiltin, aun, AV.cells, AV.one, Nat.reduceAdd, Int.reduceLT, Int.reduceLE, ↓WD, W0, evalOp, Nat.reduceEqDiff, Nat.reduceLT, ↓reduceIte, reduceCtorEq, hl, e0, e1]
    refine ⟨rfl, ?_, ?_, ?_⟩ <;> simp only [List.length_set, W0, Nat.reduceEqDiff, Nat.reduceLT, ↓reduceIte, hl, e0, e1]) ?_
  rintro envg1 _ ⟨rfl, hl, e0, e1⟩
  try simp only [↓WD, W0, evalOp, Nat.reduceEqDiff, Nat.reduceLT, ↓reduceIte, reduceCtorEq, hl, e0, e1]
  rw [AW_region]
  obtain ⟨y2, qy2, hF⟩ := obind hF
  have og3 := fun (D : Drawn) (n : Nat) (g : AH) => call_hook (P := Try.prog) (D := D) k112 n (args := [.str s_, .int .i64 at_, .int .i64 4]) (v := .tup [.int .u64 y2.1, .int .i64 y2.2]) ((kf_112_eq s_ at_ 4).trans (by rw [qy2]; rfl)) g
  refine AE_joinR (fun e h' => h = h' ∧ e.length = 15 ∧ e.getD 5 .undef = .int .u64 y2.1) (by
    simp only [↓WE, WA, WL, aop, ofValue, ofCell, isConst, abin, acall1, abuiltin, aun, AV.cells, AV.one, Nat.reduceAdd, Int.reduceLT, Int.reduceLE, ↓WD, W0, evalOp, Nat.reduceEqDiff, Nat.reduceLT, ↓reduceIte, reduceCtorEq, hl, e0, e1, og3]
    refine ⟨rfl, ?_, ?_⟩ <;> simp only [List.length_set, W0, Nat.reduceEqDiff, Nat.reduceLT, ↓reduceIte, hl, e0, e1]) ?_
  rintro envg4 _ ⟨rfl, hl, e5⟩
  try simp only [↓WD, W0, evalOp, Nat.reduceEqDiff, Nat.reduceLT, ↓reduceIte, reduceCtorEq, hl, e5]
  rw [AW_region]
  have oc5 := fun g : AH => aconv_int (P := Try.prog) (h := g) (n := y2.1) (k' := .u64) Try.underlying24 Try.underlying3
  refine AE_joinR (fun e h' => h = h' ∧ e.length = 15 ∧ e.getD 4 .undef = .int .i64 (IntKind.i64.wrap y2.1)) (by
    simp only [↓WE, WA, WL, aop, ofValue, ofCell, isConst, abin, acall1, abuiltin, aun, AV.cells, AV.one, Nat.reduceAdd, Int.reduceLT, Int.reduceLE, ↓WD, W0, evalOp, Nat.reduceEqDiff, Nat.reduceLT, ↓reduceIte, reduceCtorEq, hl, e5, oc5]
    refine ⟨rfl, ?_, ?_⟩ <;> simp only [List.length_set, W0, Nat.reduceEqDiff, Nat.reduceLT, ↓reduceIte, hl, e5]) ?_
  rintro envg6 _ ⟨rfl, hl, e4⟩
  try simp only [↓WD, W0, evalOp, Nat.reduceEqDiff, Nat.reduceLT, ↓reduceIte, reduceCtorEq, hl, e4]
  refine KP_ret (vs := [.int .i64 (IntKind.i64.wrap y2.1)]) (by simp only [aresults, aresult, gs, List.length_set, Nat.reduceEqDiff, Nat.reduceLT, ↓reduceIte, hl, e4]) ?_
  obtain rfl := Option.some.inj hF
  exact rfl
end Go.Proofs.YtobhmahlenjheaaM
