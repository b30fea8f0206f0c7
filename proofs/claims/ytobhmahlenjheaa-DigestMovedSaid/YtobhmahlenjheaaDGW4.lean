/- The abstract machine computes what the plain functions say: printed by lift.py. -/
import Derived.Test.YtobhmahlenjheaaDGW3
import Derived.KernelRfl
set_option linter.unusedSimpArgs false
set_option linter.unusedVariables false
namespace Go.Proofs.YtobhmahlenjheaaM
open Go Go.RowKit
set_option maxHeartbeats 4000000
set_option maxRecDepth 100000
theorem W_internal_stringslite_HasPrefix {K : PureK} (n126 : K 126 = none) (m : Nat) (hm : NF + 1 ≤ m) (h : AH) (s_ : List UInt8) (prefix_ : List UInt8) {r : Bool} (hF : F_internal_stringslite_HasPrefix s_ prefix_ = some r) :
    AR (acall Try.prog (hooksOf K) (drawnOf Try.prog (tabOf K)) m 126 [.str s_, .str prefix_] h) (fun v h' => v = .bool r) := by
  obtain ⟨m, rfl⟩ : ∃ k, m = k + 1 := ⟨m - 1, by omega⟩
  refine AR_call (hooksOf_none n126) Try.func126 rfl _ _ fun env hl he => ?_
  have e0 := he 0
  have e1 := he 1
  simp only [List.getD_cons_zero, List.getD_cons_succ] at e0 e1
  simp only [Try.f126] at hl ⊢
  simp only [List.length_cons, List.length_nil, Nat.reduceAdd, Nat.reduceSub] at hl
  clear he
  have S0 : Sep h [] h [] := Sep.nil h
  rw [F_internal_stringslite_HasPrefix] at hF
  try simp only [↓WD, W0, evalOp, Nat.reduceEqDiff, Nat.reduceLT, ↓reduceIte, reduceCtorEq, hl, e0, e1]
  rw [AW_region]
  refine AE_joinR (fun e h' => h = h' ∧ e.length = 18 ∧ e.getD 0 .undef = .str s_ ∧ e.getD 1 .undef = .str prefix_) (by
    simp only [↓WE, WA, WL, aop, ofValue, ofCell, isConst, abin, acall1, abuiltin, aun, AV.cells, AV.one, Nat.reduceAdd, Int.reduceLT, Int.reduceLE, ↓WD, W0, evalOp, Nat.reduceEqDiff, Nat.reduceLT, ↓reduceIte, reduceCtorEq, hl, e0, e1]
    refine ⟨rfl, ?_, ?_, ?_⟩ <;> simp only [List.length_set, W0, Nat.reduceEqDiff, Nat.reduceLT, ↓reduceIte, hl, e0, e1]) ?_
  rintro envg1 _ ⟨rfl, hl, e0, e1⟩
  try simp only [↓WD, W0, evalOp, Nat.reduceEqDiff, Nat.reduceLT, ↓reduceIte, reduceCtorEq, hl, e0, e1]
  rw [AW_region]
  obtain ⟨j9, qj9, hF⟩ := obind hF
  refine AE_joinR (fun e h' => e.length = 18 ∧ e.getD 4 .undef = .bool j9 ∧ Sep h [] h' []) ?_ ?_
  · have ol2 := fun g : AH => alen_str (P := Try.prog) (h := g) (l := s_) Try.underlying9
    have ol3 := fun g : AH => alen_str (P := Try.prog) (h := g) (l := prefix_) Try.underlying9
    simp only [↓WE, WA, WL, aop, ofValue, ofCell, isConst, abin, acall1, abuiltin, aun, AV.cells, AV.one, Nat.reduceAdd, Int.reduceLT, Int.reduceLE, ↓WD, W0, evalOp, Nat.reduceEqDiff, Nat.reduceLT, ↓reduceIte, reduceCtorEq, hl, e0, e1, ol2, ol3]
    refine GuardW_dec (fun c4 => ?_) (fun c4 => ?_)
    · rw [if_pos c4] at qj9
      have d5 : (decide ((s_.length : Int) ≥ (prefix_.length : Int))) = true := decide_eq_true c4
      have ol7 := fun g : AH => alen_str (P := Try.prog) (h := g) (l := prefix_) Try.underlying9
      obtain ⟨s8, qs8, qj9⟩ := obind qj9
      have os8 := fun g : AH => sub_strT (P := Try.prog) (h := g) (k := .i64) Try.underlying9 qs8
      simp only [↓WE, WA, WL, aop, ofValue, ofCell, isConst, abin, acall1, abuiltin, aun, AV.cells, AV.one, Nat.reduceAdd, Int.reduceLT, Int.reduceLE, ↓WD, W0, evalOp, Nat.reduceEqDiff, Nat.reduceLT, ↓reduceIte, reduceCtorEq, hl, e0, e1, ol2, ol3, ol7, os8, d5]
      obtain rfl := Option.some.inj qj9
      refine ⟨?_, ?_, S0⟩ <;> simp only [List.length_set, W0, Nat.reduceEqDiff, Nat.reduceLT, ↓reduceIte, hl, e0, e1]
    · rw [if_neg c4] at qj9
      have d6 : (decide ((s_.length : Int) ≥ (prefix_.length : Int))) = false := decide_eq_false c4
      simp only [↓WE, WA, WL, aop, ofValue, ofCell, isConst, abin, acall1, abuiltin, aun, AV.cells, AV.one, Nat.reduceAdd, Int.reduceLT, Int.reduceLE, ↓WD, W0, evalOp, Nat.reduceEqDiff, Nat.reduceLT, ↓reduceIte, reduceCtorEq, hl, e0, e1, ol2, ol3, d6]
      obtain rfl := Option.some.inj qj9
      refine ⟨?_, ?_, S0⟩ <;> simp only [List.length_set, W0, Nat.reduceEqDiff, Nat.reduceLT, ↓reduceIte, hl, e0, e1]
  · rintro envj9 h11 ⟨hl, e4, S10⟩
    try simp only [↓WD, W0, evalOp, Nat.reduceEqDiff, Nat.reduceLT, ↓reduceIte, reduceCtorEq, hl, e4]
    refine KP_ret (vs := [.bool j9]) (by simp only [aresults, aresult, gs, List.length_set, Nat.reduceEqDiff, Nat.reduceLT, ↓reduceIte, hl, e4]) ?_
    obtain rfl := Option.some.inj hF
    exact rfl
theorem W_strings_HasPrefix {K : PureK} (k126 : K 126 = some kf_126) (n103 : K 103 = none) (m : Nat) (hm : NF + 1 ≤ m) (h : AH) (s_ : List UInt8) (prefix_ : List UInt8) {r : Bool} (hF : F_strings_HasPrefix s_ prefix_ = some r) :
    AR (acall Try.prog (hooksOf K) (drawnOf Try.prog (tabOf K)) m 103 [.str s_, .str prefix_] h) (fun v h' => v = .bool r) := by
  obtain ⟨m, rfl⟩ : ∃ k, m = k + 1 := ⟨m - 1, by omega⟩
  refine AR_call (hooksOf_none n103) Try.func103 rfl _ _ fun env hl he => ?_
  have e0 := he 0
  have e1 := he 1
  simp only [List.getD_cons_zero, List.getD_cons_succ] at e0 e1
  simp only [Try.f103] at hl ⊢
  simp only [List.length_cons, List.length_nil, Nat.reduceAdd, Nat.reduceSub] at hl
  clear he
  have S0 : Sep h [] h [] := Sep.nil h
  rw [F_strings_HasPrefix] at hF
  try simp only [↓WD, W0, evalOp, Nat.reduceEqDiff, Nat.reduceLT, ↓reduceIte, reduceCtorEq, hl, e0, e1]
  rw [AW_region]
  refine AE_joinR (fun e h' => h = h' ∧ e.length = 8 ∧ e.getD 0 .undef = .str s_ ∧ e.getD 1 .undef = .str prefix_) (by
    simp only [↓WE, WA, WL, aop, ofValue, ofCell, isConst, abin, acall1, abuiltin, aun, AV.cells, AV.one, Nat.reduceAdd, Int.reduceLT, Int.reduceLE, ↓WD, W0, evalOp, Nat.reduceEqDiff, Nat.reduceLT, ↓reduceIte, reduceCtorEq, hl, e0, e1]
    refine ⟨rfl, ?_, ?_, ?_⟩ <;> simp only [List.length_set, W0, Nat.reduceEqDiff, Nat.reduceLT, ↓reduceIte, hl, e0, e1]) ?_
  rintro envg1 _ ⟨rfl, hl, e0, e1⟩
  try simp only [↓WD, W0, evalOp, Nat.reduceEqDiff, Nat.reduceLT, ↓reduceIte, reduceCtorEq, hl, e0, e1]
  rw [AW_region]
  obtain ⟨y2, qy2, hF⟩ := obind hF
  have og3 := fun (D : Drawn) (n : Nat) (g : AH) => call_hook (P := Try.prog) (D := D) k126 n (args := [.str s_, .str prefix_]) (v := .bool y2) ((kf_126_eq s_ prefix_).trans (by rw [qy2]; rfl)) g
  refine AE_joinR (fun e h' => h = h' ∧ e.length = 8 ∧ e.getD 4 .undef = .bool y2) (by
    simp only [↓WE, WA, WL, aop, ofValue, ofCell, isConst, abin, acall1, abuiltin, aun, AV.cells, AV.one, Nat.reduceAdd, Int.reduceLT, Int.reduceLE, ↓WD, W0, evalOp, Nat.reduceEqDiff, Nat.reduceLT, ↓reduceIte, reduceCtorEq, hl, e0, e1, og3]
    refine ⟨rfl, ?_, ?_⟩ <;> simp only [List.length_set, W0, Nat.reduceEqDiff, Nat.reduceLT, ↓reduceIte, hl, e0, e1]) ?_
  rintro envg4 _ ⟨rfl, hl, e4⟩
  try simp only [↓WD, W0, evalOp, Nat.reduceEqDiff, Nat.reduceLT, ↓reduceIte, reduceCtorEq, hl, e4]
  refine KP_ret (vs := [.bool y2]) (by simp only [aresults, aresult, gs, List.length_set, Nat.reduceEqDiff, Nat.reduceLT, ↓reduceIte, hl, e4]) ?_
  obtain rfl := Option.some.inj hF
  exact rfl
theorem W_route_Under {K : PureK} (k103 : K 103 = some kf_103) (n95 : K 95 = none) (m : Nat) (hm : NF + 1 ≤ m) (h : AH) (p : List UInt8) (dir : List UInt8) {r : Bool} (hF : F_route_Under p dir = some r) :
    AR (acall Try.prog (hooksOf K) (drawnOf Try.prog (tabOf K)) m 95 [.str p, .str dir] h) (fun v h' => v = .bool r) := by
  obtain ⟨m, rfl⟩ : ∃ k, m = k + 1 := ⟨m - 1, by omega⟩
  refine AR_call (hooksOf_none n95) Try.func95 rfl _ _ fun env hl he => ?_
  have e0 := he 0
  have e1 := he 1
  simp only [List.getD_cons_zero, List.getD_cons_succ] at e0 e1
  simp only [Try.f95] at hl ⊢
  simp only [List.length_cons, List.length_nil, Nat.reduceAdd, Nat.reduceSub] at hl
  clear he
  have S0 : Sep h [] h [] := Sep.nil h
  rw [F_route_Under] at hF
  try simp only [↓WD, W0, evalOp, Nat.reduceEqDiff, Nat.reduceLT, ↓reduceIte, reduceCtorEq, hl, e0, e1]
  rw [AW_region]
  refine AE_joinR (fun e h' => h = h' ∧ e.length = 13 ∧ e.getD 0 .undef = .str p ∧ e.getD 1 .undef = .str dir) (by
    simp only [↓WE, WA, WL, aop, ofValue, ofCell, isConst, abin, acall1, abuiltin, aun, AV.cells, AV.one, Nat.reduceAdd, Int.reduceLT, Int.reduceLE, ↓WD, W0, evalOp, Nat.reduceEqDiff, Nat.reduceLT, ↓reduceIte, reduceCtorEq, hl, e0, e1]
    refine ⟨rfl, ?_, ?_, ?_⟩ <;> simp only [List.length_set, W0, Nat.reduceEqDiff, Nat.reduceLT, ↓reduceIte, hl, e0, e1]) ?_
  rintro envg1 _ ⟨rfl, hl, e0, e1⟩
  try simp only [↓WD, W0, evalOp, Nat.reduceEqDiff, Nat.reduceLT, ↓reduceIte, reduceCtorEq, hl, e0, e1]
  rw [AW_region]
  refine AE_joinR (fun e h' => h = h' ∧ e.length = 13 ∧ e.getD 0 .undef = .str p ∧ e.getD 1 .undef = .str dir ∧ e.getD 6 .undef = .bool (dir == [])) (by
    simp only [↓WE, WA, WL, aop, ofValue, ofCell, isConst, abin, acall1, abuiltin, aun, AV.cells, AV.one, Nat.reduceAdd, Int.reduceLT, Int.reduceLE, ↓WD, W0, evalOp, Nat.reduceEqDiff, Nat.reduceLT, ↓reduceIte, reduceCtorEq, hl, e0, e1]
    refine ⟨rfl, ?_, ?_, ?_, ?_⟩ <;> simp only [List.length_set, W0, Nat.reduceEqDiff, Nat.reduceLT, ↓reduceIte, hl, e0, e1]) ?_
  rintro envg2 _ ⟨rfl, hl, e0, e1, e6⟩
  try simp only [↓WD, W0, evalOp, Nat.reduceEqDiff, Nat.reduceLT, ↓reduceIte, reduceCtorEq, hl, e0, e1, e6]
  refine CondK_boo (fun c5 => ?_) (fun c5 => ?_)
  · rw [if_pos c5] at hF
    try simp only [↓WD, W0, evalOp, Nat.reduceEqDiff, Nat.reduceLT, ↓reduceIte, reduceCtorEq, hl, e0, e1, e6]
    rw [AW_region]
    refine AE_joinR (fun e h' => h = h' ∧ e.length = 13 ∧ e.getD 4 .undef = .bool (!(p == []))) (by
      simp only [↓WE, WA, WL, aop, ofValue, ofCell, isConst, abin, acall1, abuiltin, aun, AV.cells, AV.one, Nat.reduceAdd, Int.reduceLT, Int.reduceLE, ↓WD, W0, evalOp, Nat.reduceEqDiff, Nat.reduceLT, ↓reduceIte, reduceCtorEq, hl, e0, e1, e6]
      refine ⟨rfl, ?_, ?_⟩ <;> simp only [List.length_set, W0, Nat.reduceEqDiff, Nat.reduceLT, ↓reduceIte, hl, e0, e1, e6]) ?_
    rintro envg6 _ ⟨rfl, hl, e4⟩
    try simp only [↓WD, W0, evalOp, Nat.reduceEqDiff, Nat.reduceLT, ↓reduceIte, reduceCtorEq, hl, e4]
    refine KP_ret (vs := [.bool (!(p == []))]) (by simp only [aresults, aresult, gs, List.length_set, Nat.reduceEqDiff, Nat.reduceLT, ↓reduceIte, hl, e4]) ?_
    obtain rfl := Option.some.inj hF
    exact rfl
  · rw [if_neg (nf c5)] at hF
    try simp only [↓WD, W0, evalOp, Nat.reduceEqDiff, Nat.reduceLT, ↓reduceIte, reduceCtorEq, hl, e0, e1, e6]
    rw [AW_region]
    obtain ⟨s7, qs7, hF⟩ := obind hF
    have os7 := cat_str qs7
    obtain ⟨y8, qy8, hF⟩ := obind hF
    have og9 := fun (D : Drawn) (n : Nat) (g : AH) => call_hook (P := Try.prog) (D := D) k103 n (args := [.str p, .str s7]) (v := .bool y8) ((kf_103_eq p s7).trans (by rw [qy8]; rfl)) g
    refine AE_joinR (fun e h' => h = h' ∧ e.length = 13 ∧ e.getD 4 .undef = .bool y8) (by
      simp only [↓WE, WA, WL, aop, ofValue, ofCell, isConst, abin, acall1, abuiltin, aun, AV.cells, AV.one, Nat.reduceAdd, Int.reduceLT, Int.reduceLE, ↓WD, W0, evalOp, Nat.reduceEqDiff, Nat.reduceLT, ↓reduceIte, reduceCtorEq, hl, e0, e1, e6, os7, og9]
      refine ⟨rfl, ?_, ?_⟩ <;> simp only [List.length_set, W0, Nat.reduceEqDiff, Nat.reduceLT, ↓reduceIte, hl, e0, e1, e6]) ?_
    rintro envg10 _ ⟨rfl, hl, e4⟩
    try simp only [↓WD, W0, evalOp, Nat.reduceEqDiff, Nat.reduceLT, ↓reduceIte, reduceCtorEq, hl, e4]
    refine KP_ret (vs := [.bool y8]) (by simp only [aresults, aresult, gs, List.length_set, Nat.reduceEqDiff, Nat.reduceLT, ↓reduceIte, hl, e4]) ?_
    obtain rfl := Option.some.inj hF
    exact rfl
theorem W_digest_Under {K : PureK} (k16 : K 16 = some kf_16) (k90 : K 90 = some kf_90) (k95 : K 95 = some kf_95) (k116 : K 116 = some kf_116) (k128 : K 128 = some hb77) (n51 : K 51 = none) (n66 : K 66 = none) (n67 : K 67 = none) (n68 : K 68 = none) (n91 : K 91 = none) (n106 : K 106 = none) (n118 : K 118 = none) (n53 : K 53 = none) (m : Nat) (hm : NF + 7 ≤ m) (h : AH) (ut : AV) (t : List Gapi_Node) (hut : RO 5 ut h (t.map Gapi_Node.cells)) (dir : List UInt8) {r : (List UInt8)} (hF : F_digest_Under t dir = some r) :
    AR (acall Try.prog (hooksOf K) (drawnOf Try.prog (tabOf K)) m 53 [ut, .str dir] h) (fun v h' => v = .str r ∧ Sep h [] h' []) := by
  obtain ⟨m, rfl⟩ : ∃ k, m = k + 1 := ⟨m - 1, by omega⟩
  refine AR_call (hooksOf_none n53) Try.func53 rfl _ _ fun env hl he => ?_
  have e0 := he 0
  have e1 := he 1
  simp only [List.getD_cons_zero, List.getD_cons_succ] at e0 e1
  simp only [Try.f53] at hl ⊢
  simp only [List.length_cons, List.length_nil, Nat.reduceAdd, Nat.reduceSub] at hl
  clear he
  have S0 : Sep h [] h [] := Sep.nil h
  rw [F_digest_Under] at hF
  try simp only [↓WD, W0, evalOp, Nat.reduceEqDiff, Nat.reduceLT, ↓reduceIte, reduceCtorEq, hl, e0, e1]
  rw [AW_region]
  refine AE_joinR (fun e h' => h = h' ∧ e.length = 35 ∧ e.getD 0 .undef = ut ∧ e.getD 1 .undef = .str dir) (by
    simp only [↓WE, WA, WL, aop, ofValue, ofCell, isConst, abin, acall1, abuiltin, aun, AV.cells, AV.one, Nat.reduceAdd, Int.reduceLT, Int.reduceLE, ↓WD, W0, evalOp, Nat.reduceEqDiff, Nat.reduceLT, ↓reduceIte, reduceCtorEq, hl, e0, e1]
    refine ⟨rfl, ?_, ?_, ?_⟩ <;> simp only [List.length_set, W0, Nat.reduceEqDiff, Nat.reduceLT, ↓reduceIte, hl, e0, e1]) ?_
  rintro envg1 _ ⟨rfl, hl, e0, e1⟩
  try simp only [↓WD, W0, evalOp, Nat.reduceEqDiff, Nat.reduceLT, ↓reduceIte, reduceCtorEq, hl, e0, e1]
  rw [AW_region]
  refine AE_joinR (fun e h' => h = h' ∧ e.length = 35 ∧ e.getD 0 .undef = ut ∧ e.getD 1 .undef = .str dir ∧ e.getD 5 .undef = .val (.slice none 0 0)) (by
    simp only [↓WE, WA, WL, aop, ofValue, ofCell, isConst, abin, acall1, abuiltin, aun, AV.cells, AV.one, Nat.reduceAdd, Int.reduceLT, Int.reduceLE, ↓WD, W0, evalOp, Nat.reduceEqDiff, Nat.reduceLT, ↓reduceIte, reduceCtorEq, hl, e0, e1]
    refine ⟨rfl, ?_, ?_, ?_, ?_⟩ <;> simp only [List.length_set, W0, Nat.reduceEqDiff, Nat.reduceLT, ↓reduceIte, hl, e0, e1]) ?_
  rintro envg2 _ ⟨rfl, hl, e0, e1, e5⟩
  try simp only [↓WD, W0, evalOp, Nat.reduceEqDiff, Nat.reduceLT, ↓reduceIte, reduceCtorEq, hl, e0, e1, e5]
  rw [AW_region]
  have ol3 := RO.len (P := Try.prog) sl_67 (S0.ro hut)
  rw [List.length_map] at ol3
  refine AE_joinR (fun e h' => h = h' ∧ e.length = 35 ∧ e.getD 1 .undef = .str dir ∧ e.getD 5 .undef = .val (.slice none 0 0) ∧ e.getD 8 .undef = ut ∧ e.getD 9 .undef = .int .i64 (t.length : Int) ∧ e.getD 10 .undef = .int .i64 0) (by
    simp only [↓WE, WA, WL, aop, ofValue, ofCell, isConst, abin, acall1, abuiltin, aun, AV.cells, AV.one, Nat.reduceAdd, Int.reduceLT, Int.reduceLE, ↓WD, W0, evalOp, Nat.reduceEqDiff, Nat.reduceLT, ↓reduceIte, reduceCtorEq, hl, e0, e1, e5, ol3]
    refine ⟨rfl, ?_, ?_, ?_, ?_, ?_, ?_⟩ <;> simp only [List.length_set, W0, Nat.reduceEqDiff, Nat.reduceLT, ↓reduceIte, hl, e0, e1, e5]) ?_
  rintro envg4 _ ⟨rfl, hl, e1, e5, e8, e9, e10⟩
  try simp only [↓WD, W0, evalOp, Nat.reduceEqDiff, Nat.reduceLT, ↓reduceIte, reduceCtorEq, hl, e1, e5, e8, e9, e10]
  have S66 : Sep h [] h [.row (.val (.slice none 0 0)) 75 5 (([] : List Gapi_Node).map Gapi_Node.cells)] := S0.nilrow 75 5
  obtain ⟨r135, qr135, hF⟩ := obind hF
  refine AW_lift (L_digest_Under_1 t dir) (fun s e h' => ∃ (u74 : AV), e.length = 35 ∧ e.getD 1 .undef = .str dir ∧ e.getD 5 .undef = u74 ∧ e.getD 8 .undef = ut ∧ e.getD 9 .undef = .int .i64 (t.length : Int) ∧ e.getD 10 .undef = .int .i64 s.2 ∧ Sep h [] h' [.row u74 75 5 (s.1.map Gapi_Node.cells)]) (fun r135 x e h' => ∃ (u136 : AV), x = .exit 0 ∧ e.length = 35 ∧ e.getD 5 .undef = u136 ∧ Sep h [] h' [.row u136 75 5 (r135.map Gapi_Node.cells)]) qr135 (by omega) ?_ ?_ ?_
  · rintro s envr135 h75 or135 ⟨u74, hl, e1, e5, e8, e9, e10, S76⟩ wr135
    rw [L_digest_Under_1] at wr135
    try simp only [↓WD, W0, evalOp, Nat.reduceEqDiff, Nat.reduceLT, ↓reduceIte, reduceCtorEq, hl, e1, e5, e8, e9, e10]
    rw [AW_region]
    refine AE_joinR (fun e h' => h75 = h' ∧ e.length = 35 ∧ e.getD 1 .undef = .str dir ∧ e.getD 5 .undef = u74 ∧ e.getD 8 .undef = ut ∧ e.getD 9 .undef = .int .i64 (t.length : Int) ∧ e.getD 10 .undef = .int .i64 s.2 ∧ e.getD 11 .undef = .bool (decide (s.2 < (t.length : Int)))) (by
      simp only [↓WE, WA, WL, aop, ofValue, ofCell, isConst, abin, acall1, abuiltin, aun, AV.cells, AV.one, Nat.reduceAdd, Int.reduceLT, Int.reduceLE, ↓WD, W0, evalOp, Nat.reduceEqDiff, Nat.reduceLT, ↓reduceIte, reduceCtorEq, hl, e1, e5, e8, e9, e10]
      refine ⟨rfl, ?_, ?_, ?_, ?_, ?_, ?_, ?_⟩ <;> simp only [List.length_set, W0, Nat.reduceEqDiff, Nat.reduceLT, ↓reduceIte, hl, e1, e5, e8, e9, e10]) ?_
    rintro envg77 _ ⟨rfl, hl, e1, e5, e8, e9, e10, e11⟩
    try simp only [↓WD, W0, evalOp, Nat.reduceEqDiff, Nat.reduceLT, ↓reduceIte, reduceCtorEq, hl, e1, e5, e8, e9, e10, e11]
    refine CondK_dec (fun c79 => ?_) (fun c79 => ?_)
    · rw [if_pos c79] at wr135
      try simp only [↓WD, W0, evalOp, Nat.reduceEqDiff, Nat.reduceLT, ↓reduceIte, reduceCtorEq, hl, e1, e5, e8, e9, e10, e11]
      rw [AW_region]
      obtain ⟨x80, qx80, wr135⟩ := obind wr135
      obtain ⟨i81, off82, oi83, hp84⟩ := RO.addr (P := Try.prog) sl_67 (S76.ro hut) qx80
      have ol85 := RO.ld (P := Try.prog) (S76.ro hut) hp84 qx80 (t := 75) (o := 0) (v := .agg [.str x80.xPath, .bool x80.xDir, .str x80.xData, .int .i64 x80.xMode, .int .i64 x80.xTime]) (by omega) (by simp only [apart, ag_75, sz_75]; rfl)
      simp only [Nat.add_zero] at ol85
      obtain ⟨i86, h87, oa88, S89⟩ := S76.alloc 75 [.str [], .bool false, .str [], .int .i64 0, .int .i64 0]
      have S91 : Sep h [] h87 [.row u74 75 5 (s.1.map Gapi_Node.cells), .blk i86 [.str [], .bool false, .str [], .int .i64 0, .int .i64 0] 75] := S89
      obtain ⟨h92, os93, S94⟩ := S91.store (P := Try.prog) 1 rfl (t := 75) (off := 0) (v := .agg [.str x80.xPath, .bool x80.xDir, .str x80.xData, .int .i64 x80.xMode, .int .i64 x80.xTime]) (c' := [.str x80.xPath, .bool x80.xDir, .str x80.xData, .int .i64 x80.xMode, .int .i64 x80.xTime]) rfl sz_75 rfl (by simp) rfl
      have S95 : Sep h [] h92 [.row u74 75 5 (s.1.map Gapi_Node.cells), .blk i86 [.str x80.xPath, .bool x80.xDir, .str x80.xData, .int .i64 x80.xMode, .int .i64 x80.xTime] 75] := S94
      refine AE_joinR (fun e h' => h92 = h' ∧ e.length = 35 ∧ e.getD 1 .undef = .str dir ∧ e.getD 5 .undef = u74 ∧ e.getD 7 .undef = .ptr i86 0 ∧ e.getD 8 .undef = ut ∧ e.getD 9 .undef = .int .i64 (t.length : Int) ∧ e.getD 10 .undef = .int .i64 s.2) (by
        simp only [↓WE, WA, WL, aop, ofValue, ofCell, isConst, abin, acall1, abuiltin, aun, AV.cells, AV.one, Nat.reduceAdd, Int.reduceLT, Int.reduceLE, ↓WD, W0, evalOp, Nat.reduceEqDiff, Nat.reduceLT, ↓reduceIte, reduceCtorEq, hl, e1, e5, e8, e9, e10, e11, oi83, ol85, zero_75, oa88, os93]
        refine ⟨rfl, ?_, ?_, ?_, ?_, ?_, ?_, ?_⟩ <;> simp only [List.length_set, W0, Nat.reduceEqDiff, Nat.reduceLT, ↓reduceIte, hl, e1, e5, e8, e9, e10, e11]) ?_
      rintro envg96 _ ⟨rfl, hl, e1, e5, e7, e8, e9, e10⟩
      try simp only [↓WD, W0, evalOp, Nat.reduceEqDiff, Nat.reduceLT, ↓reduceIte, reduceCtorEq, hl, e1, e5, e7, e8, e9, e10]
      rw [AW_region]
      have ol97 := S95.load (P := Try.prog) 1 rfl (t := 9) (off := 0) (v := .str x80.xPath) (by simp only [apart, ag_9, sz_9]; rfl)
      obtain ⟨y98, qy98, wr135⟩ := obind wr135
      have og99 := fun (D : Drawn) (n : Nat) (g : AH) => call_hook (P := Try.prog) (D := D) k95 n (args := [.str x80.xPath, .str dir]) (v := .bool y98) ((kf_95_eq x80.xPath dir).trans (by rw [qy98]; rfl)) g
      refine AE_joinR (fun e h' => h92 = h' ∧ e.length = 35 ∧ e.getD 1 .undef = .str dir ∧ e.getD 5 .undef = u74 ∧ e.getD 7 .undef = .ptr i86 0 ∧ e.getD 8 .undef = ut ∧ e.getD 9 .undef = .int .i64 (t.length : Int) ∧ e.getD 10 .undef = .int .i64 s.2 ∧ e.getD 18 .undef = .bool !y98) (by
        simp only [↓WE, WA, WL, aop, ofValue, ofCell, isConst, abin, acall1, abuiltin, aun, AV.cells, AV.one, Nat.reduceAdd, Int.reduceLT, Int.reduceLE, ↓WD, W0, evalOp, Nat.reduceEqDiff, Nat.reduceLT, ↓reduceIte, reduceCtorEq, hl, e1, e5, e7, e8, e9, e10, fa_75_0, ol97, og99]
        refine ⟨rfl, ?_, ?_, ?_, ?_, ?_, ?_, ?_, ?_⟩ <;> simp only [List.length_set, W0, Nat.reduceEqDiff, Nat.reduceLT, ↓reduceIte, hl, e1, e5, e7, e8, e9, e10]) ?_
      rintro envg100 _ ⟨rfl, hl, e1, e5, e7, e8, e9, e10, e18⟩
      try simp only [↓WD, W0, evalOp, Nat.reduceEqDiff, Nat.reduceLT, ↓reduceIte, reduceCtorEq, hl, e1, e5, e7, e8, e9, e10, e18]
      refine CondK_boo (fun c103 => ?_) (fun c103 => ?_)
      · rw [if_pos c103] at wr135
        try simp only [↓WD, W0, evalOp, Nat.reduceEqDiff, Nat.reduceLT, ↓reduceIte, reduceCtorEq, hl, e1, e5, e7, e8, e9, e10, e18]
        rw [AW_region]
        refine AE_joinR (fun e h' => h92 = h' ∧ e.length = 35 ∧ e.getD 1 .undef = .str dir ∧ e.getD 5 .undef = u74 ∧ e.getD 8 .undef = ut ∧ e.getD 9 .undef = .int .i64 (t.length : Int) ∧ e.getD 10 .undef = .int .i64 (IntKind.i64.wrap (s.2 + 1))) (by
          simp only [↓WE, WA, WL, aop, ofValue, ofCell, isConst, abin, acall1, abuiltin, aun, AV.cells, AV.one, Nat.reduceAdd, Int.reduceLT, Int.reduceLE, ↓WD, W0, evalOp, Nat.reduceEqDiff, Nat.reduceLT, ↓reduceIte, reduceCtorEq, hl, e1, e5, e7, e8, e9, e10, e18]
          refine ⟨rfl, ?_, ?_, ?_, ?_, ?_, ?_⟩ <;> simp only [List.length_set, W0, Nat.reduceEqDiff, Nat.reduceLT, ↓reduceIte, hl, e1, e5, e7, e8, e9, e10, e18]) ?_
        rintro envg104 _ ⟨rfl, hl, e1, e5, e8, e9, e10⟩
        try simp only [↓WD, W0, evalOp, Nat.reduceEqDiff, Nat.reduceLT, ↓reduceIte, reduceCtorEq, hl, e1, e5, e8, e9, e10]
        obtain rfl := Option.some.inj wr135
        rw [KP_nil, QL_normal]
        refine ⟨_, rfl, u74, ?_, ?_, ?_, ?_, ?_, ?_, S95.pick [0] (by decide) rfl⟩ <;> simp only [List.length_set, W0, Nat.reduceEqDiff, Nat.reduceLT, ↓reduceIte, hl, e1, e5, e8, e9, e10]
      · rw [if_neg (nf c103)] at wr135
        try simp only [↓WD, W0, evalOp, Nat.reduceEqDiff, Nat.reduceLT, ↓reduceIte, reduceCtorEq, hl, e1, e5, e7, e8, e9, e10, e18]
        rw [AW_region]
        refine AE_joinR (fun e h' => h92 = h' ∧ e.length = 35 ∧ e.getD 1 .undef = .str dir ∧ e.getD 5 .undef = u74 ∧ e.getD 7 .undef = .ptr i86 0 ∧ e.getD 8 .undef = ut ∧ e.getD 9 .undef = .int .i64 (t.length : Int) ∧ e.getD 10 .undef = .int .i64 s.2 ∧ e.getD 20 .undef = .bool (!(dir == []))) (by
          simp only [↓WE, WA, WL, aop, ofValue, ofCell, isConst, abin, acall1, abuiltin, aun, AV.cells, AV.one, Nat.reduceAdd, Int.reduceLT, Int.reduceLE, ↓WD, W0, evalOp, Nat.reduceEqDiff, Nat.reduceLT, ↓reduceIte, reduceCtorEq, hl, e1, e5, e7, e8, e9, e10, e18]
          refine ⟨rfl, ?_, ?_, ?_, ?_, ?_, ?_, ?_, ?_⟩ <;> simp only [List.length_set, W0, Nat.reduceEqDiff, Nat.reduceLT, ↓reduceIte, hl, e1, e5, e7, e8, e9, e10, e18]) ?_
        rintro envg105 _ ⟨rfl, hl, e1, e5, e7, e8, e9, e10, e20⟩
        try simp only [↓WD, W0, evalOp, Nat.reduceEqDiff, Nat.reduceLT, ↓reduceIte, reduceCtorEq, hl, e1, e5, e7, e8, e9, e10, e20]
        obtain ⟨j115, qj115, wr135⟩ := obind wr135
        refine CondK_join (fun e h' => e.length = 35 ∧ e.getD 1 .undef = .str dir ∧ e.getD 5 .undef = u74 ∧ e.getD 7 .undef = .ptr i86 0 ∧ e.getD 8 .undef = ut ∧ e.getD 9 .undef = .int .i64 (t.length : Int) ∧ e.getD 10 .undef = .int .i64 s.2 ∧ Sep h [] h' [.row u74 75 5 (s.1.map Gapi_Node.cells), .blk i86 [.str j115, .bool x80.xDir, .str x80.xData, .int .i64 x80.xMode, .int .i64 x80.xTime] 75]) ?_ ?_
        · refine CondK_boo (fun c106 => ?_) (fun c106 => ?_)
          · rw [if_pos c106] at qj115
            try simp only [↓WD, W0, evalOp, Nat.reduceEqDiff, Nat.reduceLT, ↓reduceIte, reduceCtorEq, hl, e1, e5, e7, e8, e9, e10, e20]
            rw [AW_region]
            have ol107 := S95.load (P := Try.prog) 1 rfl (t := 9) (off := 0) (v := .str x80.xPath) (by simp only [apart, ag_9, sz_9]; rfl)
            have ol108 := fun g : AH => alen_str (P := Try.prog) (h := g) (l := dir) Try.underlying9
            obtain ⟨s109, qs109, qj115⟩ := obind qj115
            have os109 := fun g : AH => sub_strF (P := Try.prog) (h := g) (k := .i64) Try.underlying9 qs109
            obtain ⟨h110, os111, S112⟩ := S95.store (P := Try.prog) 1 rfl (t := 9) (off := 0) (v := .str s109) (c' := [.str s109, .bool x80.xDir, .str x80.xData, .int .i64 x80.xMode, .int .i64 x80.xTime]) rfl sz_9 rfl (by simp) rfl
            have S113 : Sep h [] h110 [.row u74 75 5 (s.1.map Gapi_Node.cells), .blk i86 [.str s109, .bool x80.xDir, .str x80.xData, .int .i64 x80.xMode, .int .i64 x80.xTime] 75] := S112
            refine AE_joinR (fun e h' => h110 = h' ∧ e.length = 35 ∧ e.getD 1 .undef = .str dir ∧ e.getD 5 .undef = u74 ∧ e.getD 7 .undef = .ptr i86 0 ∧ e.getD 8 .undef = ut ∧ e.getD 9 .undef = .int .i64 (t.length : Int) ∧ e.getD 10 .undef = .int .i64 s.2) (by
              simp only [↓WE, WA, WL, aop, ofValue, ofCell, isConst, abin, acall1, abuiltin, aun, AV.cells, AV.one, Nat.reduceAdd, Int.reduceLT, Int.reduceLE, ↓WD, W0, evalOp, Nat.reduceEqDiff, Nat.reduceLT, ↓reduceIte, reduceCtorEq, hl, e1, e5, e7, e8, e9, e10, e20, fa_75_0, ol107, ol108, os109, os111]
              refine ⟨rfl, ?_, ?_, ?_, ?_, ?_, ?_, ?_⟩ <;> simp only [List.length_set, W0, Nat.reduceEqDiff, Nat.reduceLT, ↓reduceIte, hl, e1, e5, e7, e8, e9, e10, e20]) ?_
            rintro envg114 _ ⟨rfl, hl, e1, e5, e7, e8, e9, e10⟩
            try simp only [↓WD, W0, evalOp, Nat.reduceEqDiff, Nat.reduceLT, ↓reduceIte, reduceCtorEq, hl, e1, e5, e7, e8, e9, e10]
            rw [KP_nil, KJ_normal]
            obtain rfl := Option.some.inj qj115
            refine ⟨?_, ?_, ?_, ?_, ?_, ?_, ?_, S113⟩ <;> simp only [List.length_set, W0, Nat.reduceEqDiff, Nat.reduceLT, ↓reduceIte, hl, e1, e5, e7, e8, e9, e10]
          · rw [if_neg (nf c106)] at qj115
            try simp only [↓WD, W0, evalOp, Nat.reduceEqDiff, Nat.reduceLT, ↓reduceIte, reduceCtorEq, hl, e1, e5, e7, e8, e9, e10, e20]
            rw [KP_nil, KJ_normal]
            obtain rfl := Option.some.inj qj115
            refine ⟨?_, ?_, ?_, ?_, ?_, ?_, ?_, S95⟩ <;> simp only [List.length_set, W0, Nat.reduceEqDiff, Nat.reduceLT, ↓reduceIte, hl, e1, e5, e7, e8, e9, e10, e20]
        · rintro envj115 h117 ⟨hl, e1, e5, e7, e8, e9, e10, S116⟩
          try simp only [↓WD, W0, evalOp, Nat.reduceEqDiff, Nat.reduceLT, ↓reduceIte, reduceCtorEq, hl, e1, e5, e7, e8, e9, e10]
          rw [AW_region]
          have ol118 := S116.load (P := Try.prog) 1 rfl (t := 75) (off := 0) (v := .agg [.str j115, .bool x80.xDir, .str x80.xData, .int .i64 x80.xMode, .int .i64 x80.xTime]) (by simp only [apart, ag_75, sz_75]; rfl)
          obtain ⟨u119, h120, ob121, S122⟩ := Sep.build (P := Try.prog) sl_67 S116 [.agg [.str j115, .bool x80.xDir, .str x80.xData, .int .i64 x80.xMode, .int .i64 x80.xTime]] (([(⟨j115, x80.xDir, x80.xData, x80.xMode, x80.xTime⟩ : Gapi_Node)] : List Gapi_Node).map Gapi_Node.cells) rfl (by simp [Gapi_Node.cells]) (by simp)
          have ob121 : abuildSlice Try.prog 67 1 [(0, .agg [.str j115, .bool x80.xDir, .str x80.xData, .int .i64 x80.xMode, .int .i64 x80.xTime])] h117 = some (u119, h120) := ob121
          have S124 : Sep h [] h120 [.row u74 75 5 (s.1.map Gapi_Node.cells), .blk i86 [.str j115, .bool x80.xDir, .str x80.xData, .int .i64 x80.xMode, .int .i64 x80.xTime] 75, .row u119 75 5 (([(⟨j115, x80.xDir, x80.xData, x80.xMode, x80.xTime⟩ : Gapi_Node)] : List Gapi_Node).map Gapi_Node.cells)] := S122
          obtain ⟨zs125, qzs125, wr135⟩ := obind wr135
          obtain ⟨u126, h127, op128, S129⟩ := Sep.append (P := Try.prog) (t' := 67) sl_67 (by rw [Try.underlying67]; rfl) S124 0 rfl (S124.row_ro (i := 2) rfl) (fun _ => rfl) qzs125
          have S130 : Sep h [] h127 [.row u126 75 5 (zs125.map Gapi_Node.cells), .blk i86 [.str j115, .bool x80.xDir, .str x80.xData, .int .i64 x80.xMode, .int .i64 x80.xTime] 75, .row u119 75 5 (([(⟨j115, x80.xDir, x80.xData, x80.xMode, x80.xTime⟩ : Gapi_Node)] : List Gapi_Node).map Gapi_Node.cells)] := S129
          refine AE_joinR (fun e h' => h127 = h' ∧ e.length = 35 ∧ e.getD 1 .undef = .str dir ∧ e.getD 5 .undef = u126 ∧ e.getD 8 .undef = ut ∧ e.getD 9 .undef = .int .i64 (t.length : Int) ∧ e.getD 10 .undef = .int .i64 s.2) (by
            simp only [↓WE, WA, WL, aop, ofValue, ofCell, isConst, abin, acall1, abuiltin, aun, AV.cells, AV.one, Nat.reduceAdd, Int.reduceLT, Int.reduceLE, ↓WD, W0, evalOp, Nat.reduceEqDiff, Nat.reduceLT, ↓reduceIte, reduceCtorEq, hl, e1, e5, e7, e8, e9, e10, ol118, ob121, op128]
            refine ⟨rfl, ?_, ?_, ?_, ?_, ?_, ?_⟩ <;> simp only [List.length_set, W0, Nat.reduceEqDiff, Nat.reduceLT, ↓reduceIte, hl, e1, e5, e7, e8, e9, e10]) ?_
          rintro envg131 _ ⟨rfl, hl, e1, e5, e8, e9, e10⟩
          try simp only [↓WD, W0, evalOp, Nat.reduceEqDiff, Nat.reduceLT, ↓reduceIte, reduceCtorEq, hl, e1, e5, e8, e9, e10]
          rw [AW_region]
          refine AE_joinR (fun e h' => h127 = h' ∧ e.length = 35 ∧ e.getD 1 .undef = .str dir ∧ e.getD 5 .undef = u126 ∧ e.getD 8 .undef = ut ∧ e.getD 9 .undef = .int .i64 (t.length : Int) ∧ e.getD 10 .undef = .int .i64 (IntKind.i64.wrap (s.2 + 1))) (by
            simp only [↓WE, WA, WL, aop, ofValue, ofCell, isConst, abin, acall1, abuiltin, aun, AV.cells, AV.one, Nat.reduceAdd, Int.reduceLT, Int.reduceLE, ↓WD, W0, evalOp, Nat.reduceEqDiff, Nat.reduceLT, ↓reduceIte, reduceCtorEq, hl, e1, e5, e8, e9, e10]
            refine ⟨rfl, ?_, ?_, ?_, ?_, ?_, ?_⟩ <;> simp only [List.length_set, W0, Nat.reduceEqDiff, Nat.reduceLT, ↓reduceIte, hl, e1, e5, e8, e9, e10]) ?_
          rintro envg132 _ ⟨rfl, hl, e1, e5, e8, e9, e10⟩
          try simp only [↓WD, W0, evalOp, Nat.reduceEqDiff, Nat.reduceLT, ↓reduceIte, reduceCtorEq, hl, e1, e5, e8, e9, e10]
          obtain rfl := Option.some.inj wr135
          rw [KP_nil, QL_normal]
          refine ⟨_, rfl, u126, ?_, ?_, ?_, ?_, ?_, ?_, S130.pick [0] (by decide) rfl⟩ <;> simp only [List.length_set, W0, Nat.reduceEqDiff, Nat.reduceLT, ↓reduceIte, hl, e1, e5, e8, e9, e10]
    · rw [if_neg c79] at wr135
      try simp only [↓WD, W0, evalOp, Nat.reduceEqDiff, Nat.reduceLT, ↓reduceIte, reduceCtorEq, hl, e1, e5, e8, e9, e10, e11]
      obtain rfl := Option.some.inj wr135
      rw [KP_nil, QL_exit]
      refine ⟨_, rfl, u74, rfl, ?_, ?_, S76⟩ <;> simp only [List.length_set, W0, Nat.reduceEqDiff, Nat.reduceLT, ↓reduceIte, hl, e1, e5, e8, e9, e10, e11]
  · refine ⟨.val (.slice none 0 0), ?_, ?_, ?_, ?_, ?_, ?_, S66⟩ <;> simp only [List.length_set, W0, Nat.reduceEqDiff, Nat.reduceLT, ↓reduceIte, hl, e1, e5, e8, e9, e10]
  · rintro x envr135 h137 ⟨u136, rfl, hl, e5, S138⟩
    try simp only [↓WD, W0, evalOp, Nat.reduceEqDiff, Nat.reduceLT, ↓reduceIte, reduceCtorEq, hl, e5]
    rw [AW_region]
    obtain ⟨y139, qy139, hF⟩ := obind hF
    obtain ⟨v143, h141, og140, rfl, S142⟩ := (W_digest_Tree k16 k90 k116 k128 n66 n67 n68 n91 n106 n118 n51 m (by omega) h137 u136 r135 (S138.row_ro (i := 0) rfl) qy139).out
    have S144 : Sep h [] h141 [.row u136 75 5 (r135.map Gapi_Node.cells)] := S138.call0 S142
    refine AE_joinR (fun e h' => h141 = h' ∧ e.length = 35 ∧ e.getD 4 .undef = .str y139) (by
      simp only [↓WE, WA, WL, aop, ofValue, ofCell, isConst, abin, acall1, abuiltin, aun, AV.cells, AV.one, Nat.reduceAdd, Int.reduceLT, Int.reduceLE, ↓WD, W0, evalOp, Nat.reduceEqDiff, Nat.reduceLT, ↓reduceIte, reduceCtorEq, hl, e5, og140]
      refine ⟨rfl, ?_, ?_⟩ <;> simp only [List.length_set, W0, Nat.reduceEqDiff, Nat.reduceLT, ↓reduceIte, hl, e5]) ?_
    rintro envg145 _ ⟨rfl, hl, e4⟩
    try simp only [↓WD, W0, evalOp, Nat.reduceEqDiff, Nat.reduceLT, ↓reduceIte, reduceCtorEq, hl, e4]
    refine KP_ret (vs := [.str y139]) (by simp only [aresults, aresult, gs, List.length_set, Nat.reduceEqDiff, Nat.reduceLT, ↓reduceIte, hl, e4]) ?_
    obtain rfl := Option.some.inj hF
    exact ⟨rfl, S144.pick [] (by decide) rfl⟩
theorem W_ref13_Parts {K : PureK} (n119 : K 119 = none) (m : Nat) (hm : NF + 1 ≤ m) (h : AH) (p : List UInt8) {r : (List (List UInt8))} (hF : F_ref13_Parts p = some r) :
    AR (acall Try.prog (hooksOf K) (drawnOf Try.prog (tabOf K)) m 119 [.str p] h) (fun v h' => ∃ w0 : AV, v = w0 ∧ Sep h [] h' [.row w0 9 1 (r.map cellS)]) := by
  obtain ⟨m, rfl⟩ : ∃ k, m = k + 1 := ⟨m - 1, by omega⟩
  refine AR_call (hooksOf_none n119) Try.func119 rfl _ _ fun env hl he => ?_
  have e0 := he 0
  simp only [List.getD_cons_zero, List.getD_cons_succ] at e0
  simp only [Try.f119] at hl ⊢
  simp only [List.length_cons, List.length_nil, Nat.reduceAdd, Nat.reduceSub] at hl
  clear he
  have S0 : Sep h [] h [] := Sep.nil h
  rw [F_ref13_Parts] at hF
  try simp only [↓WD, W0, evalOp, Nat.reduceEqDiff, Nat.reduceLT, ↓reduceIte, reduceCtorEq, hl, e0]
  rw [AW_region]
  refine AE_joinR (fun e h' => h = h' ∧ e.length = 34 ∧ e.getD 0 .undef = .str p) (by
    simp only [↓WE, WA, WL, aop, ofValue, ofCell, isConst, abin, acall1, abuiltin, aun, AV.cells, AV.one, Nat.reduceAdd, Int.reduceLT, Int.reduceLE, ↓WD, W0, evalOp, Nat.reduceEqDiff, Nat.reduceLT, ↓reduceIte, reduceCtorEq, hl, e0]
    refine ⟨rfl, ?_, ?_⟩ <;> simp only [List.length_set, W0, Nat.reduceEqDiff, Nat.reduceLT, ↓reduceIte, hl, e0]) ?_
  rintro envg1 _ ⟨rfl, hl, e0⟩
  try simp only [↓WD, W0, evalOp, Nat.reduceEqDiff, Nat.reduceLT, ↓reduceIte, reduceCtorEq, hl, e0]
  rw [AW_region]
  refine AE_joinR (fun e h' => h = h' ∧ e.length = 34 ∧ e.getD 0 .undef = .str p ∧ e.getD 7 .undef = .bool (p == [])) (by
    simp only [↓WE, WA, WL, aop, ofValue, ofCell, isConst, abin, acall1, abuiltin, aun, AV.cells, AV.one, Nat.reduceAdd, Int.reduceLT, Int.reduceLE, ↓WD, W0, evalOp, Nat.reduceEqDiff, Nat.reduceLT, ↓reduceIte, reduceCtorEq, hl, e0]
    refine ⟨rfl, ?_, ?_, ?_⟩ <;> simp only [List.length_set, W0, Nat.reduceEqDiff, Nat.reduceLT, ↓reduceIte, hl, e0]) ?_
  rintro envg2 _ ⟨rfl, hl, e0, e7⟩
  try simp only [↓WD, W0, evalOp, Nat.reduceEqDiff, Nat.reduceLT, ↓reduceIte, reduceCtorEq, hl, e0, e7]
  refine CondK_boo (fun c7 => ?_) (fun c7 => ?_)
  · rw [if_pos c7] at hF
    try simp only [↓WD, W0, evalOp, Nat.reduceEqDiff, Nat.reduceLT, ↓reduceIte, reduceCtorEq, hl, e0, e7]
    rw [AW_region]
    refine AE_joinR (fun e h' => h = h' ∧ e.length = 34 ∧ e.getD 2 .undef = .val (.slice none 0 0)) (by
      simp only [↓WE, WA, WL, aop, ofValue, ofCell, isConst, abin, acall1, abuiltin, aun, AV.cells, AV.one, Nat.reduceAdd, Int.reduceLT, Int.reduceLE, ↓WD, W0, evalOp, Nat.reduceEqDiff, Nat.reduceLT, ↓reduceIte, reduceCtorEq, hl, e0, e7]
      refine ⟨rfl, ?_, ?_⟩ <;> simp only [List.length_set, W0, Nat.reduceEqDiff, Nat.reduceLT, ↓reduceIte, hl, e0, e7]) ?_
    rintro envg8 _ ⟨rfl, hl, e2⟩
    try simp only [↓WD, W0, evalOp, Nat.reduceEqDiff, Nat.reduceLT, ↓reduceIte, reduceCtorEq, hl, e2]
    have S10 : Sep h [] h [.row (.val (.slice none 0 0)) 9 1 (([] : List (List UInt8)).map cellS)] := S0.nilrow 9 1
    refine KP_ret (vs := [.val (.slice none 0 0)]) (by simp only [aresults, aresult, gs, List.length_set, Nat.reduceEqDiff, Nat.reduceLT, ↓reduceIte, hl, e2]) ?_
    obtain rfl := Option.some.inj hF
    exact ⟨.val (.slice none 0 0), rfl, S10⟩
  · rw [if_neg (nf c7)] at hF
    try simp only [↓WD, W0, evalOp, Nat.reduceEqDiff, Nat.reduceLT, ↓reduceIte, reduceCtorEq, hl, e0, e7]
    rw [AW_region]
    refine AE_joinR (fun e h' => h = h' ∧ e.length = 34 ∧ e.getD 0 .undef = .str p ∧ e.getD 3 .undef = .val (.slice none 0 0)) (by
      simp only [↓WE, WA, WL, aop, ofValue, ofCell, isConst, abin, acall1, abuiltin, aun, AV.cells, AV.one, Nat.reduceAdd, Int.reduceLT, Int.reduceLE, ↓WD, W0, evalOp, Nat.reduceEqDiff, Nat.reduceLT, ↓reduceIte, reduceCtorEq, hl, e0, e7]
      refine ⟨rfl, ?_, ?_, ?_⟩ <;> simp only [List.length_set, W0, Nat.reduceEqDiff, Nat.reduceLT, ↓reduceIte, hl, e0, e7]) ?_
    rintro envg11 _ ⟨rfl, hl, e0, e3⟩
    try simp only [↓WD, W0, evalOp, Nat.reduceEqDiff, Nat.reduceLT, ↓reduceIte, reduceCtorEq, hl, e0, e3]
    rw [AW_region]
    refine AE_joinR (fun e h' => h = h' ∧ e.length = 34 ∧ e.getD 0 .undef = .str p ∧ e.getD 3 .undef = .val (.slice none 0 0) ∧ e.getD 4 .undef = .int .i64 0) (by
      simp only [↓WE, WA, WL, aop, ofValue, ofCell, isConst, abin, acall1, abuiltin, aun, AV.cells, AV.one, Nat.reduceAdd, Int.reduceLT, Int.reduceLE, ↓WD, W0, evalOp, Nat.reduceEqDiff, Nat.reduceLT, ↓reduceIte, reduceCtorEq, hl, e0, e3]
      refine ⟨rfl, ?_, ?_, ?_, ?_⟩ <;> simp only [List.length_set, W0, Nat.reduceEqDiff, Nat.reduceLT, ↓reduceIte, hl, e0, e3]) ?_
    rintro envg12 _ ⟨rfl, hl, e0, e3, e4⟩
    try simp only [↓WD, W0, evalOp, Nat.reduceEqDiff, Nat.reduceLT, ↓reduceIte, reduceCtorEq, hl, e0, e3, e4]
    rw [AW_region]
    refine AE_joinR (fun e h' => h = h' ∧ e.length = 34 ∧ e.getD 0 .undef = .str p ∧ e.getD 3 .undef = .val (.slice none 0 0) ∧ e.getD 4 .undef = .int .i64 0 ∧ e.getD 5 .undef = .int .i64 0) (by
      simp only [↓WE, WA, WL, aop, ofValue, ofCell, isConst, abin, acall1, abuiltin, aun, AV.cells, AV.one, Nat.reduceAdd, Int.reduceLT, Int.reduceLE, ↓WD, W0, evalOp, Nat.reduceEqDiff, Nat.reduceLT, ↓reduceIte, reduceCtorEq, hl, e0, e3, e4]
      refine ⟨rfl, ?_, ?_, ?_, ?_, ?_⟩ <;> simp only [List.length_set, W0, Nat.reduceEqDiff, Nat.reduceLT, ↓reduceIte, hl, e0, e3, e4]) ?_
    rintro envg13 _ ⟨rfl, hl, e0, e3, e4, e5⟩
    try simp only [↓WD, W0, evalOp, Nat.reduceEqDiff, Nat.reduceLT, ↓reduceIte, reduceCtorEq, hl, e0, e3, e4, e5]
    have S67 : Sep h [] h [.row (.val (.slice none 0 0)) 9 1 (([] : List (List UInt8)).map cellS)] := S0.nilrow 9 1
    obtain ⟨r124, qr124, hF⟩ := obind hF
    refine AW_lift (L_ref13_Parts_1 p) (fun s e h' => ∃ (u73 : AV), e.length = 34 ∧ e.getD 0 .undef = .str p ∧ e.getD 3 .undef = u73 ∧ e.getD 4 .undef = .int .i64 s.2.1 ∧ e.getD 5 .undef = .int .i64 s.2.2 ∧ Sep h [] h' [.row u73 9 1 (s.1.map cellS)]) (fun r124 x e h' => ∃ (u125 : AV), x = .exit 0 ∧ e.length = 34 ∧ e.getD 3 .undef = u125 ∧ Sep h [] h' [.row u125 9 1 (r124.map cellS)]) qr124 (by omega) ?_ ?_ ?_
    · rintro s envr124 h74 or124 ⟨u73, hl, e0, e3, e4, e5, S75⟩ wr124
      rw [L_ref13_Parts_1] at wr124
      try simp only [↓WD, W0, evalOp, Nat.reduceEqDiff, Nat.reduceLT, ↓reduceIte, reduceCtorEq, hl, e0, e3, e4, e5]
      rw [AW_region]
      have ol76 := fun g : AH => alen_str (P := Try.prog) (h := g) (l := p) Try.underlying9
      refine AE_joinR (fun e h' => h74 = h' ∧ e.length = 34 ∧ e.getD 0 .undef = .str p ∧ e.getD 3 .undef = u73 ∧ e.getD 4 .undef = .int .i64 s.2.1 ∧ e.getD 5 .undef = .int .i64 s.2.2 ∧ e.getD 11 .undef = .bool (decide (s.2.2 ≤ (p.length : Int)))) (by
        simp only [↓WE, WA, WL, aop, ofValue, ofCell, isConst, abin, acall1, abuiltin, aun, AV.cells, AV.one, Nat.reduceAdd, Int.reduceLT, Int.reduceLE, ↓WD, W0, evalOp, Nat.reduceEqDiff, Nat.reduceLT, ↓reduceIte, reduceCtorEq, hl, e0, e3, e4, e5, ol76]
        refine ⟨rfl, ?_, ?_, ?_, ?_, ?_, ?_⟩ <;> simp only [List.length_set, W0, Nat.reduceEqDiff, Nat.reduceLT, ↓reduceIte, hl, e0, e3, e4, e5]) ?_
      rintro envg77 _ ⟨rfl, hl, e0, e3, e4, e5, e11⟩
      try simp only [↓WD, W0, evalOp, Nat.reduceEqDiff, Nat.reduceLT, ↓reduceIte, reduceCtorEq, hl, e0, e3, e4, e5, e11]
      refine CondK_dec (fun c79 => ?_) (fun c79 => ?_)
      · rw [if_pos c79] at wr124
        try simp only [↓WD, W0, evalOp, Nat.reduceEqDiff, Nat.reduceLT, ↓reduceIte, reduceCtorEq, hl, e0, e3, e4, e5, e11]
        rw [AW_region]
        obtain ⟨j85, qj85, wr124⟩ := obind wr124
        refine AE_joinR (fun e h' => e.length = 34 ∧ e.getD 0 .undef = .str p ∧ e.getD 3 .undef = u73 ∧ e.getD 4 .undef = .int .i64 s.2.1 ∧ e.getD 5 .undef = .int .i64 s.2.2 ∧ e.getD 23 .undef = .bool j85 ∧ Sep h [] h' [.row u73 9 1 (s.1.map cellS)]) ?_ ?_
        · have ol80 := fun g : AH => alen_str (P := Try.prog) (h := g) (l := p) Try.underlying9
          simp only [↓WE, WA, WL, aop, ofValue, ofCell, isConst, abin, acall1, abuiltin, aun, AV.cells, AV.one, Nat.reduceAdd, Int.reduceLT, Int.reduceLE, ↓WD, W0, evalOp, Nat.reduceEqDiff, Nat.reduceLT, ↓reduceIte, reduceCtorEq, hl, e0, e3, e4, e5, e11, ol80]
          refine GuardW_boo (fun c81 => ?_) (fun c81 => ?_)
          · rw [if_pos c81] at qj85
            have d82 := c81
            simp only [↓WE, WA, WL, aop, ofValue, ofCell, isConst, abin, acall1, abuiltin, aun, AV.cells, AV.one, Nat.reduceAdd, Int.reduceLT, Int.reduceLE, ↓WD, W0, evalOp, Nat.reduceEqDiff, Nat.reduceLT, ↓reduceIte, reduceCtorEq, hl, e0, e3, e4, e5, e11, ol80, d82]
            obtain rfl := Option.some.inj qj85
            refine ⟨?_, ?_, ?_, ?_, ?_, ?_, S75⟩ <;> simp only [List.length_set, W0, Nat.reduceEqDiff, Nat.reduceLT, ↓reduceIte, hl, e0, e3, e4, e5, e11]
          · rw [if_neg (nf c81)] at qj85
            have d83 := c81
            obtain ⟨c84, qc84, qj85⟩ := obind qj85
            have oc84 := idx_str (P := Try.prog) (k := .i64) Try.underlying9 qc84
            simp only [↓WE, WA, WL, aop, ofValue, ofCell, isConst, abin, acall1, abuiltin, aun, AV.cells, AV.one, Nat.reduceAdd, Int.reduceLT, Int.reduceLE, ↓WD, W0, evalOp, Nat.reduceEqDiff, Nat.reduceLT, ↓reduceIte, reduceCtorEq, hl, e0, e3, e4, e5, e11, ol80, oc84, d83]
            obtain rfl := Option.some.inj qj85
            refine ⟨?_, ?_, ?_, ?_, ?_, ?_, S75⟩ <;> simp only [List.length_set, W0, Nat.reduceEqDiff, Nat.reduceLT, ↓reduceIte, hl, e0, e3, e4, e5, e11]
        · rintro envj85 h87 ⟨hl, e0, e3, e4, e5, e23, S86⟩
          try simp only [↓WD, W0, evalOp, Nat.reduceEqDiff, Nat.reduceLT, ↓reduceIte, reduceCtorEq, hl, e0, e3, e4, e5, e23]
          refine CondK_boo (fun c104 => ?_) (fun c104 => ?_)
          · rw [if_pos c104] at wr124
            try simp only [↓WD, W0, evalOp, Nat.reduceEqDiff, Nat.reduceLT, ↓reduceIte, reduceCtorEq, hl, e0, e3, e4, e5, e23]
            rw [AW_region]
            obtain ⟨s105, qs105, wr124⟩ := obind wr124
            have os105 := fun g : AH => sub_str (P := Try.prog) (h := g) (k := .i64) (k' := .i64) Try.underlying9 qs105
            obtain ⟨u106, h107, ob108, S109⟩ := Sep.build (P := Try.prog) sl_51 S86 [.str s105] (([s105] : List (List UInt8)).map cellS) rfl (by simp [cellS]) (by simp)
            have ob108 : abuildSlice Try.prog 51 1 [(0, .str s105)] h87 = some (u106, h107) := ob108
            have S111 : Sep h [] h107 [.row u73 9 1 (s.1.map cellS), .row u106 9 1 (([s105] : List (List UInt8)).map cellS)] := S109
            obtain ⟨zs112, qzs112, wr124⟩ := obind wr124
            obtain ⟨u113, h114, op115, S116⟩ := Sep.append (P := Try.prog) (t' := 51) sl_51 (by rw [Try.underlying51]; rfl) S111 0 rfl (S111.row_ro (i := 1) rfl) (fun _ => rfl) qzs112
            have S117 : Sep h [] h114 [.row u113 9 1 (zs112.map cellS), .row u106 9 1 (([s105] : List (List UInt8)).map cellS)] := S116
            refine AE_joinR (fun e h' => h114 = h' ∧ e.length = 34 ∧ e.getD 0 .undef = .str p ∧ e.getD 3 .undef = u113 ∧ e.getD 5 .undef = .int .i64 s.2.2) (by
              simp only [↓WE, WA, WL, aop, ofValue, ofCell, isConst, abin, acall1, abuiltin, aun, AV.cells, AV.one, Nat.reduceAdd, Int.reduceLT, Int.reduceLE, ↓WD, W0, evalOp, Nat.reduceEqDiff, Nat.reduceLT, ↓reduceIte, reduceCtorEq, hl, e0, e3, e4, e5, e23, os105, ob108, op115]
              refine ⟨rfl, ?_, ?_, ?_, ?_⟩ <;> simp only [List.length_set, W0, Nat.reduceEqDiff, Nat.reduceLT, ↓reduceIte, hl, e0, e3, e4, e5, e23]) ?_
            rintro envg118 _ ⟨rfl, hl, e0, e3, e5⟩
            try simp only [↓WD, W0, evalOp, Nat.reduceEqDiff, Nat.reduceLT, ↓reduceIte, reduceCtorEq, hl, e0, e3, e5]
            rw [AW_region]
            refine AE_joinR (fun e h' => h114 = h' ∧ e.length = 34 ∧ e.getD 0 .undef = .str p ∧ e.getD 3 .undef = u113 ∧ e.getD 4 .undef = .int .i64 (IntKind.i64.wrap (s.2.2 + 1)) ∧ e.getD 5 .undef = .int .i64 s.2.2) (by
              simp only [↓WE, WA, WL, aop, ofValue, ofCell, isConst, abin, acall1, abuiltin, aun, AV.cells, AV.one, Nat.reduceAdd, Int.reduceLT, Int.reduceLE, ↓WD, W0, evalOp, Nat.reduceEqDiff, Nat.reduceLT, ↓reduceIte, reduceCtorEq, hl, e0, e3, e5]
              refine ⟨rfl, ?_, ?_, ?_, ?_, ?_⟩ <;> simp only [List.length_set, W0, Nat.reduceEqDiff, Nat.reduceLT, ↓reduceIte, hl, e0, e3, e5]) ?_
            rintro envg119 _ ⟨rfl, hl, e0, e3, e4, e5⟩
            try simp only [↓WD, W0, evalOp, Nat.reduceEqDiff, Nat.reduceLT, ↓reduceIte, reduceCtorEq, hl, e0, e3, e4, e5]
            rw [AW_region]
            refine AE_joinR (fun e h' => h114 = h' ∧ e.length = 34 ∧ e.getD 0 .undef = .str p ∧ e.getD 3 .undef = u113 ∧ e.getD 4 .undef = .int .i64 (IntKind.i64.wrap (s.2.2 + 1)) ∧ e.getD 5 .undef = .int .i64 (IntKind.i64.wrap (s.2.2 + 1))) (by
              simp only [↓WE, WA, WL, aop, ofValue, ofCell, isConst, abin, acall1, abuiltin, aun, AV.cells, AV.one, Nat.reduceAdd, Int.reduceLT, Int.reduceLE, ↓WD, W0, evalOp, Nat.reduceEqDiff, Nat.reduceLT, ↓reduceIte, reduceCtorEq, hl, e0, e3, e4, e5]
              refine ⟨rfl, ?_, ?_, ?_, ?_, ?_⟩ <;> simp only [List.length_set, W0, Nat.reduceEqDiff, Nat.reduceLT, ↓reduceIte, hl, e0, e3, e4, e5]) ?_
            rintro envg120 _ ⟨rfl, hl, e0, e3, e4, e5⟩
            try simp only [↓WD, W0, evalOp, Nat.reduceEqDiff, Nat.reduceLT, ↓reduceIte, reduceCtorEq, hl, e0, e3, e4, e5]
            obtain rfl := Option.some.inj wr124
            rw [KP_nil, QL_normal]
            refine ⟨_, rfl, u113, ?_, ?_, ?_, ?_, ?_, S117.pick [0] (by decide) rfl⟩ <;> simp only [List.length_set, W0, Nat.reduceEqDiff, Nat.reduceLT, ↓reduceIte, hl, e0, e3, e4, e5]
          · rw [if_neg (nf c104)] at wr124
            try simp only [↓WD, W0, evalOp, Nat.reduceEqDiff, Nat.reduceLT, ↓reduceIte, reduceCtorEq, hl, e0, e3, e4, e5, e23]
            rw [AW_region]
            refine AE_joinR (fun e h' => h87 = h' ∧ e.length = 34 ∧ e.getD 0 .undef = .str p ∧ e.getD 3 .undef = u73 ∧ e.getD 4 .undef = .int .i64 s.2.1 ∧ e.getD 5 .undef = .int .i64 (IntKind.i64.wrap (s.2.2 + 1))) (by
              simp only [↓WE, WA, WL, aop, ofValue, ofCell, isConst, abin, acall1, abuiltin, aun, AV.cells, AV.one, Nat.reduceAdd, Int.reduceLT, Int.reduceLE, ↓WD, W0, evalOp, Nat.reduceEqDiff, Nat.reduceLT, ↓reduceIte, reduceCtorEq, hl, e0, e3, e4, e5, e23]
              refine ⟨rfl, ?_, ?_, ?_, ?_, ?_⟩ <;> simp only [List.length_set, W0, Nat.reduceEqDiff, Nat.reduceLT, ↓reduceIte, hl, e0, e3, e4, e5, e23]) ?_
            rintro envg121 _ ⟨rfl, hl, e0, e3, e4, e5⟩
            try simp only [↓WD, W0, evalOp, Nat.reduceEqDiff, Nat.reduceLT, ↓reduceIte, reduceCtorEq, hl, e0, e3, e4, e5]
            obtain rfl := Option.some.inj wr124
            rw [KP_nil, QL_normal]
            refine ⟨_, rfl, u73, ?_, ?_, ?_, ?_, ?_, S86⟩ <;> simp only [List.length_set, W0, Nat.reduceEqDiff, Nat.reduceLT, ↓reduceIte, hl, e0, e3, e4, e5]
      · rw [if_neg c79] at wr124
        try simp only [↓WD, W0, evalOp, Nat.reduceEqDiff, Nat.reduceLT, ↓reduceIte, reduceCtorEq, hl, e0, e3, e4, e5, e11]
        obtain rfl := Option.some.inj wr124
        rw [KP_nil, QL_exit]
        refine ⟨_, rfl, u73, rfl, ?_, ?_, S75⟩ <;> simp only [List.length_set, W0, Nat.reduceEqDiff, Nat.reduceLT, ↓reduceIte, hl, e0, e3, e4, e5, e11]
    · refine ⟨.val (.slice none 0 0), ?_, ?_, ?_, ?_, ?_, S67⟩ <;> simp only [List.length_set, W0, Nat.reduceEqDiff, Nat.reduceLT, ↓reduceIte, hl, e0, e3, e4, e5]
    · rintro x envr124 h126 ⟨u125, rfl, hl, e3, S127⟩
      try simp only [↓WD, W0, evalOp, Nat.reduceEqDiff, Nat.reduceLT, ↓reduceIte, reduceCtorEq, hl, e3]
      rw [AW_region]
      refine AE_joinR (fun e h' => h126 = h' ∧ e.length = 34 ∧ e.getD 2 .undef = u125) (by
        simp only [↓WE, WA, WL, aop, ofValue, ofCell, isConst, abin, acall1, abuiltin, aun, AV.cells, AV.one, Nat.reduceAdd, Int.reduceLT, Int.reduceLE, ↓WD, W0, evalOp, Nat.reduceEqDiff, Nat.reduceLT, ↓reduceIte, reduceCtorEq, hl, e3]
        refine ⟨rfl, ?_, ?_⟩ <;> simp only [List.length_set, W0, Nat.reduceEqDiff, Nat.reduceLT, ↓reduceIte, hl, e3]) ?_
      rintro envg128 _ ⟨rfl, hl, e2⟩
      try simp only [↓WD, W0, evalOp, Nat.reduceEqDiff, Nat.reduceLT, ↓reduceIte, reduceCtorEq, hl, e2]
      refine KP_ret (vs := [u125]) (by simp only [aresults, aresult, gs, List.length_set, Nat.reduceEqDiff, Nat.reduceLT, ↓reduceIte, hl, e2]) ?_
      obtain rfl := Option.some.inj hF
      exact ⟨u125, rfl, S127⟩
theorem W_ref13_Under {K : PureK} (n119 : K 119 = none) (n96 : K 96 = none) (m : Nat) (hm : NF + 2 ≤ m) (h : AH) (p : List UInt8) (dir : List UInt8) {r : Bool} (hF : F_ref13_Under p dir = some r) :
    AR (acall Try.prog (hooksOf K) (drawnOf Try.prog (tabOf K)) m 96 [.str p, .str dir] h) (fun v h' => v = .bool r) := by
  obtain ⟨m, rfl⟩ : ∃ k, m = k + 1 := ⟨m - 1, by omega⟩
  refine AR_call (hooksOf_none n96) Try.func96 rfl _ _ fun env hl he => ?_
  have e0 := he 0
  have e1 := he 1
  simp only [List.getD_cons_zero, List.getD_cons_succ] at e0 e1
  simp only [Try.f96] at hl ⊢
  simp only [List.length_cons, List.length_nil, Nat.reduceAdd, Nat.reduceSub] at hl
  clear he
  have S0 : Sep h [] h [] := Sep.nil h
  rw [F_ref13_Under] at hF
  try simp only [↓WD, W0, evalOp, Nat.reduceEqDiff, Nat.reduceLT, ↓reduceIte, reduceCtorEq, hl, e0, e1]
  rw [AW_region]
  refine AE_joinR (fun e h' => h = h' ∧ e.length = 32 ∧ e.getD 0 .undef = .str p ∧ e.getD 1 .undef = .str dir) (by
    simp only [↓WE, WA, WL, aop, ofValue, ofCell, isConst, abin, acall1, abuiltin, aun, AV.cells, AV.one, Nat.reduceAdd, Int.reduceLT, Int.reduceLE, ↓WD, W0, evalOp, Nat.reduceEqDiff, Nat.reduceLT, ↓reduceIte, reduceCtorEq, hl, e0, e1]
    refine ⟨rfl, ?_, ?_, ?_⟩ <;> simp only [List.length_set, W0, Nat.reduceEqDiff, Nat.reduceLT, ↓reduceIte, hl, e0, e1]) ?_
  rintro envg1 _ ⟨rfl, hl, e0, e1⟩
  try simp only [↓WD, W0, evalOp, Nat.reduceEqDiff, Nat.reduceLT, ↓reduceIte, reduceCtorEq, hl, e0, e1]
  rw [AW_region]
  obtain ⟨y2, qy2, hF⟩ := obind hF
  obtain ⟨u6, h4, og3, _, rfl, S5⟩ := (W_ref13_Parts n119 m (by omega) h p qy2).out
  have S9 : Sep h [] h4 [.row u6 9 1 (y2.map cellS)] := S0.call0 S5
  refine AE_joinR (fun e h' => h4 = h' ∧ e.length = 32 ∧ e.getD 1 .undef = .str dir ∧ e.getD 5 .undef = u6) (by
    simp only [↓WE, WA, WL, aop, ofValue, ofCell, isConst, abin, acall1, abuiltin, aun, AV.cells, AV.one, Nat.reduceAdd, Int.reduceLT, Int.reduceLE, ↓WD, W0, evalOp, Nat.reduceEqDiff, Nat.reduceLT, ↓reduceIte, reduceCtorEq, hl, e0, e1, og3]
    refine ⟨rfl, ?_, ?_, ?_⟩ <;> simp only [List.length_set, W0, Nat.reduceEqDiff, Nat.reduceLT, ↓reduceIte, hl, e0, e1]) ?_
  rintro envg10 _ ⟨rfl, hl, e1, e5⟩
  try simp only [↓WD, W0, evalOp, Nat.reduceEqDiff, Nat.reduceLT, ↓reduceIte, reduceCtorEq, hl, e1, e5]
  rw [AW_region]
  obtain ⟨y11, qy11, hF⟩ := obind hF
  obtain ⟨u15, h13, og12, _, rfl, S14⟩ := (W_ref13_Parts n119 m (by omega) h4 dir qy11).out
  have S18 : Sep h [] h13 [.row u6 9 1 (y2.map cellS), .row u15 9 1 (y11.map cellS)] := S9.call0 S14
  refine AE_joinR (fun e h' => h13 = h' ∧ e.length = 32 ∧ e.getD 5 .undef = u6 ∧ e.getD 6 .undef = u15) (by
    simp only [↓WE, WA, WL, aop, ofValue, ofCell, isConst, abin, acall1, abuiltin, aun, AV.cells, AV.one, Nat.reduceAdd, Int.reduceLT, Int.reduceLE, ↓WD, W0, evalOp, Nat.reduceEqDiff, Nat.reduceLT, ↓reduceIte, reduceCtorEq, hl, e1, e5, og12]
    refine ⟨rfl, ?_, ?_, ?_⟩ <;> simp only [List.length_set, W0, Nat.reduceEqDiff, Nat.reduceLT, ↓reduceIte, hl, e1, e5]) ?_
  rintro envg19 _ ⟨rfl, hl, e5, e6⟩
  try simp only [↓WD, W0, evalOp, Nat.reduceEqDiff, Nat.reduceLT, ↓reduceIte, reduceCtorEq, hl, e5, e6]
  rw [AW_region]
  have ol20 := RO.len (P := Try.prog) sl_51 (S18.row_ro (i := 0) rfl)
  rw [List.length_map] at ol20
  have ol21 := RO.len (P := Try.prog) sl_51 (S18.row_ro (i := 1) rfl)
  rw [List.length_map] at ol21
  refine AE_joinR (fun e h' => h13 = h' ∧ e.length = 32 ∧ e.getD 5 .undef = u6 ∧ e.getD 6 .undef = u15 ∧ e.getD 16 .undef = .bool (decide ((y2.length : Int) ≤ (y11.length : Int)))) (by
    simp only [↓WE, WA, WL, aop, ofValue, ofCell, isConst, abin, acall1, abuiltin, aun, AV.cells, AV.one, Nat.reduceAdd, Int.reduceLT, Int.reduceLE, ↓WD, W0, evalOp, Nat.reduceEqDiff, Nat.reduceLT, ↓reduceIte, reduceCtorEq, hl, e5, e6, ol20, ol21]
    refine ⟨rfl, ?_, ?_, ?_, ?_⟩ <;> simp only [List.length_set, W0, Nat.reduceEqDiff, Nat.reduceLT, ↓reduceIte, hl, e5, e6]) ?_
  rintro envg22 _ ⟨rfl, hl, e5, e6, e16⟩
  try simp only [↓WD, W0, evalOp, Nat.reduceEqDiff, Nat.reduceLT, ↓reduceIte, reduceCtorEq, hl, e5, e6, e16]
  refine CondK_dec (fun c25 => ?_) (fun c25 => ?_)
  · rw [if_pos c25] at hF
    try simp only [↓WD, W0, evalOp, Nat.reduceEqDiff, Nat.reduceLT, ↓reduceIte, reduceCtorEq, hl, e5, e6, e16]
    rw [AW_region]
    refine AE_joinR (fun e h' => h13 = h' ∧ e.length = 32 ∧ e.getD 4 .undef = .bool false) (by
      simp only [↓WE, WA, WL, aop, ofValue, ofCell, isConst, abin, acall1, abuiltin, aun, AV.cells, AV.one, Nat.reduceAdd, Int.reduceLT, Int.reduceLE, ↓WD, W0, evalOp, Nat.reduceEqDiff, Nat.reduceLT, ↓reduceIte, reduceCtorEq, hl, e5, e6, e16]
      refine ⟨rfl, ?_, ?_⟩ <;> simp only [List.length_set, W0, Nat.reduceEqDiff, Nat.reduceLT, ↓reduceIte, hl, e5, e6, e16]) ?_
    rintro envg26 _ ⟨rfl, hl, e4⟩
    try simp only [↓WD, W0, evalOp, Nat.reduceEqDiff, Nat.reduceLT, ↓reduceIte, reduceCtorEq, hl, e4]
    refine KP_ret (vs := [.bool false]) (by simp only [aresults, aresult, gs, List.length_set, Nat.reduceEqDiff, Nat.reduceLT, ↓reduceIte, hl, e4]) ?_
    obtain rfl := Option.some.inj hF
    exact rfl
  · rw [if_neg c25] at hF
    try simp only [↓WD, W0, evalOp, Nat.reduceEqDiff, Nat.reduceLT, ↓reduceIte, reduceCtorEq, hl, e5, e6, e16]
    rw [AW_region]
    refine AE_joinR (fun e h' => h13 = h' ∧ e.length = 32 ∧ e.getD 5 .undef = u6 ∧ e.getD 6 .undef = u15 ∧ e.getD 7 .undef = .int .i64 0) (by
      simp only [↓WE, WA, WL, aop, ofValue, ofCell, isConst, abin, acall1, abuiltin, aun, AV.cells, AV.one, Nat.reduceAdd, Int.reduceLT, Int.reduceLE, ↓WD, W0, evalOp, Nat.reduceEqDiff, Nat.reduceLT, ↓reduceIte, reduceCtorEq, hl, e5, e6, e16]
      refine ⟨rfl, ?_, ?_, ?_, ?_⟩ <;> simp only [List.length_set, W0, Nat.reduceEqDiff, Nat.reduceLT, ↓reduceIte, hl, e5, e6, e16]) ?_
    rintro envg27 _ ⟨rfl, hl, e5, e6, e7⟩
    try simp only [↓WD, W0, evalOp, Nat.reduceEqDiff, Nat.reduceLT, ↓reduceIte, reduceCtorEq, hl, e5, e6, e7]
    obtain ⟨r76, qr76, hF⟩ := obind hF
    refine AW_lift (L_ref13_Under_1 y11 y2) (fun s e h' => e.length = 32 ∧ e.getD 5 .undef = u6 ∧ e.getD 6 .undef = u15 ∧ e.getD 7 .undef = .int .i64 s ∧ Sep h [] h' [.row u6 9 1 (y2.map cellS), .row u15 9 1 (y11.map cellS)]) (fun r76 x e h' => (∃ (t77 : Unit), r76 = (.inl t77) ∧ x = .exit 0 ∧ e.length = 32 ∧ Sep h [] h' []) ∨ (∃ (t80 : Unit), r76 = (.inr t80) ∧ x = .ret ∧ e.length = 32 ∧ e.getD 4 .undef = .bool false ∧ Sep h [] h' [])) qr76 (by omega) ?_ ?_ ?_
    · rintro s envr76 h52 or76 ⟨hl, e5, e6, e7, S53⟩ wr76
      rw [L_ref13_Under_1] at wr76
      try simp only [↓WD, W0, evalOp, Nat.reduceEqDiff, Nat.reduceLT, ↓reduceIte, reduceCtorEq, hl, e5, e6, e7]
      rw [AW_region]
      have ol54 := RO.len (P := Try.prog) sl_51 (S53.row_ro (i := 1) rfl)
      rw [List.length_map] at ol54
      refine AE_joinR (fun e h' => h52 = h' ∧ e.length = 32 ∧ e.getD 5 .undef = u6 ∧ e.getD 6 .undef = u15 ∧ e.getD 7 .undef = .int .i64 s ∧ e.getD 20 .undef = .bool (decide (s < (y11.length : Int)))) (by
        simp only [↓WE, WA, WL, aop, ofValue, ofCell, isConst, abin, acall1, abuiltin, aun, AV.cells, AV.one, Nat.reduceAdd, Int.reduceLT, Int.reduceLE, ↓WD, W0, evalOp, Nat.reduceEqDiff, Nat.reduceLT, ↓reduceIte, reduceCtorEq, hl, e5, e6, e7, ol54]
        refine ⟨rfl, ?_, ?_, ?_, ?_, ?_⟩ <;> simp only [List.length_set, W0, Nat.reduceEqDiff, Nat.reduceLT, ↓reduceIte, hl, e5, e6, e7]) ?_
      rintro envg55 _ ⟨rfl, hl, e5, e6, e7, e20⟩
      try simp only [↓WD, W0, evalOp, Nat.reduceEqDiff, Nat.reduceLT, ↓reduceIte, reduceCtorEq, hl, e5, e6, e7, e20]
      refine CondK_dec (fun c57 => ?_) (fun c57 => ?_)
      · rw [if_pos c57] at wr76
        try simp only [↓WD, W0, evalOp, Nat.reduceEqDiff, Nat.reduceLT, ↓reduceIte, reduceCtorEq, hl, e5, e6, e7, e20]
        rw [AW_drawn, AE_drawnK Ksub.nil (by kernel_rfl)]
        obtain ⟨x58, qx58, wr76⟩ := obind wr76
        obtain ⟨i59, off60, oi61, hp62⟩ := RO.addr (P := Try.prog) sl_51 (S53.row_ro (i := 0) rfl) qx58
        have ol63 := RO.ld (P := Try.prog) (S53.row_ro (i := 0) rfl) hp62 qx58 (t := 9) (o := 0) (v := .str x58) (by omega) (by simp only [apart, ag_9, sz_9]; rfl)
        simp only [Nat.add_zero] at ol63
        obtain ⟨x64, qx64, wr76⟩ := obind wr76
        obtain ⟨i65, off66, oi67, hp68⟩ := RO.addr (P := Try.prog) sl_51 (S53.row_ro (i := 1) rfl) qx64
        have ol69 := RO.ld (P := Try.prog) (S53.row_ro (i := 1) rfl) hp68 qx64 (t := 9) (o := 0) (v := .str x64) (by omega) (by simp only [apart, ag_9, sz_9]; rfl)
        simp only [Nat.add_zero] at ol69
        refine AE_joinR (fun e h' => h52 = h' ∧ e.length = 32 ∧ e.getD 5 .undef = u6 ∧ e.getD 6 .undef = u15 ∧ e.getD 7 .undef = .int .i64 s ∧ e.getD 31 .undef = .bool (!(x58 == x64))) (by
          simp only [↓WE, WA, WL, aop, ofValue, ofCell, isConst, abin, acall1, abuiltin, aun, AV.cells, AV.one, Nat.reduceAdd, Int.reduceLT, Int.reduceLE, ↓WD, W0, evalOp, Nat.reduceEqDiff, Nat.reduceLT, ↓reduceIte, reduceCtorEq, hl, e5, e6, e7, e20, oi61, ol63, oi67, ol69]
          refine ⟨rfl, ?_, ?_, ?_, ?_, ?_⟩ <;> simp only [List.length_set, W0, Nat.reduceEqDiff, Nat.reduceLT, ↓reduceIte, hl, e5, e6, e7, e20]) ?_
        rintro envg70 _ ⟨rfl, hl, e5, e6, e7, e31⟩
        try simp only [↓WD, W0, evalOp, Nat.reduceEqDiff, Nat.reduceLT, ↓reduceIte, reduceCtorEq, hl, e5, e6, e7, e31]
        refine CondK_boo (fun c73 => ?_) (fun c73 => ?_)
        · rw [if_pos c73] at wr76
          try simp only [↓WD, W0, evalOp, Nat.reduceEqDiff, Nat.reduceLT, ↓reduceIte, reduceCtorEq, hl, e5, e6, e7, e31]
          rw [AW_region]
          refine AE_joinR (fun e h' => h52 = h' ∧ e.length = 32 ∧ e.getD 4 .undef = .bool false) (by
            simp only [↓WE, WA, WL, aop, ofValue, ofCell, isConst, abin, acall1, abuiltin, aun, AV.cells, AV.one, Nat.reduceAdd, Int.reduceLT, Int.reduceLE, ↓WD, W0, evalOp, Nat.reduceEqDiff, Nat.reduceLT, ↓reduceIte, reduceCtorEq, hl, e5, e6, e7, e31]
            refine ⟨rfl, ?_, ?_⟩ <;> simp only [List.length_set, W0, Nat.reduceEqDiff, Nat.reduceLT, ↓reduceIte, hl, e5, e6, e7, e31]) ?_
          rintro envg74 _ ⟨rfl, hl, e4⟩
          try simp only [↓WD, W0, evalOp, Nat.reduceEqDiff, Nat.reduceLT, ↓reduceIte, reduceCtorEq, hl, e4]
          obtain rfl := Option.some.inj wr76
          rw [KP_nil, QL_ret]
          refine ⟨_, rfl, .inr (⟨_, rfl, rfl, ?_, ?_, S53.pick [] (by decide) rfl⟩)⟩ <;> simp only [List.length_set, W0, Nat.reduceEqDiff, Nat.reduceLT, ↓reduceIte, hl, e4]
        · rw [if_neg (nf c73)] at wr76
          try simp only [↓WD, W0, evalOp, Nat.reduceEqDiff, Nat.reduceLT, ↓reduceIte, reduceCtorEq, hl, e5, e6, e7, e31]
          rw [AW_region]
          refine AE_joinR (fun e h' => h52 = h' ∧ e.length = 32 ∧ e.getD 5 .undef = u6 ∧ e.getD 6 .undef = u15 ∧ e.getD 7 .undef = .int .i64 (IntKind.i64.wrap (s + 1))) (by
            simp only [↓WE, WA, WL, aop, ofValue, ofCell, isConst, abin, acall1, abuiltin, aun, AV.cells, AV.one, Nat.reduceAdd, Int.reduceLT, Int.reduceLE, ↓WD, W0, evalOp, Nat.reduceEqDiff, Nat.reduceLT, ↓reduceIte, reduceCtorEq, hl, e5, e6, e7, e31]
            refine ⟨rfl, ?_, ?_, ?_, ?_⟩ <;> simp only [List.length_set, W0, Nat.reduceEqDiff, Nat.reduceLT, ↓reduceIte, hl, e5, e6, e7, e31]) ?_
          rintro envg75 _ ⟨rfl, hl, e5, e6, e7⟩
          try simp only [↓WD, W0, evalOp, Nat.reduceEqDiff, Nat.reduceLT, ↓reduceIte, reduceCtorEq, hl, e5, e6, e7]
          obtain rfl := Option.some.inj wr76
          rw [KP_nil, QL_normal]
          refine ⟨_, rfl, ?_, ?_, ?_, ?_, S53⟩ <;> simp only [List.length_set, W0, Nat.reduceEqDiff, Nat.reduceLT, ↓reduceIte, hl, e5, e6, e7]
      · rw [if_neg c57] at wr76
        try simp only [↓WD, W0, evalOp, Nat.reduceEqDiff, Nat.reduceLT, ↓reduceIte, reduceCtorEq, hl, e5, e6, e7, e20]
        obtain rfl := Option.some.inj wr76
        rw [KP_nil, QL_exit]
        exact ⟨_, rfl, .inl ⟨_, rfl, rfl, (by simp only [List.length_set, hl]), S53.pick [] (by decide) rfl⟩⟩
    · refine ⟨?_, ?_, ?_, ?_, S18⟩ <;> simp only [List.length_set, W0, Nat.reduceEqDiff, Nat.reduceLT, ↓reduceIte, hl, e5, e6, e7]
    · intro x envr76 h78 hk
      rcases hk with ⟨t77, rfl, rfl, hl, S79⟩ | ⟨t80, rfl, rfl, hl, e4, S82⟩
      · skip
        rw [sumK_inl] at hF
        try simp only [↓WD, W0, evalOp, Nat.reduceEqDiff, Nat.reduceLT, ↓reduceIte, reduceCtorEq, hl]
        rw [AW_region]
        refine AE_joinR (fun e h' => h78 = h' ∧ e.length = 32 ∧ e.getD 4 .undef = .bool true) (by
          simp only [↓WE, WA, WL, aop, ofValue, ofCell, isConst, abin, acall1, abuiltin, aun, AV.cells, AV.one, Nat.reduceAdd, Int.reduceLT, Int.reduceLE, ↓WD, W0, evalOp, Nat.reduceEqDiff, Nat.reduceLT, ↓reduceIte, reduceCtorEq, hl]
          refine ⟨rfl, ?_, ?_⟩ <;> simp only [List.length_set, W0, Nat.reduceEqDiff, Nat.reduceLT, ↓reduceIte, hl]) ?_
        rintro envg83 _ ⟨rfl, hl, e4⟩
        try simp only [↓WD, W0, evalOp, Nat.reduceEqDiff, Nat.reduceLT, ↓reduceIte, reduceCtorEq, hl, e4]
        refine KP_ret (vs := [.bool true]) (by simp only [aresults, aresult, gs, List.length_set, Nat.reduceEqDiff, Nat.reduceLT, ↓reduceIte, hl, e4]) ?_
        obtain rfl := Option.some.inj hF
        exact rfl
      · skip
        rw [sumK_inr] at hF
        try simp only [↓WD, W0, evalOp, Nat.reduceEqDiff, Nat.reduceLT, ↓reduceIte, reduceCtorEq, hl, e4]
        refine KP_ret (vs := [.bool false]) (by simp only [aresults, aresult, gs, List.length_set, Nat.reduceEqDiff, Nat.reduceLT, ↓reduceIte, hl, e4]) ?_
        obtain rfl := Option.some.inj hF
        exact rfl
theorem W_ref39_Under {K : PureK} (k15 : K 15 = some kf_15) (k50 : K 50 = some kf_50) (k96 : K 96 = some kf_96) (n52 : K 52 = none) (n93 : K 93 = none) (n54 : K 54 = none) (m : Nat) (hm : NF + 3 ≤ m) (h : AH) (ut : AV) (t : List Gapi_Node) (hut : RO 5 ut h (t.map Gapi_Node.cells)) (dir : List UInt8) {r : (List UInt8)} (hF : F_ref39_Under t dir = some r) :
    AR (acall Try.prog (hooksOf K) (drawnOf Try.prog (tabOf K)) m 54 [ut, .str dir] h) (fun v h' => v = .str r ∧ Sep h [] h' []) := by
  obtain ⟨m, rfl⟩ : ∃ k, m = k + 1 := ⟨m - 1, by omega⟩
  refine AR_call (hooksOf_none n54) Try.func54 rfl _ _ fun env hl he => ?_
  have e0 := he 0
  have e1 := he 1
  simp only [List.getD_cons_zero, List.getD_cons_succ] at e0 e1
  simp only [Try.f54] at hl ⊢
  simp only [List.length_cons, List.length_nil, Nat.reduceAdd, Nat.reduceSub] at hl
  clear he
  have S0 : Sep h [] h [] := Sep.nil h
  rw [F_ref39_Under] at hF
  try simp only [↓WD, W0, evalOp, Nat.reduceEqDiff, Nat.reduceLT, ↓reduceIte, reduceCtorEq, hl, e0, e1]
  rw [AW_region]
  refine AE_joinR (fun e h' => h = h' ∧ e.length = 38 ∧ e.getD 0 .undef = ut ∧ e.getD 1 .undef = .str dir) (by
    simp only [↓WE, WA, WL, aop, ofValue, ofCell, isConst, abin, acall1, abuiltin, aun, AV.cells, AV.one, Nat.reduceAdd, Int.reduceLT, Int.reduceLE, ↓WD, W0, evalOp, Nat.reduceEqDiff, Nat.reduceLT, ↓reduceIte, reduceCtorEq, hl, e0, e1]
    refine ⟨rfl, ?_, ?_, ?_⟩ <;> simp only [List.length_set, W0, Nat.reduceEqDiff, Nat.reduceLT, ↓reduceIte, hl, e0, e1]) ?_
  rintro envg1 _ ⟨rfl, hl, e0, e1⟩
  try simp only [↓WD, W0, evalOp, Nat.reduceEqDiff, Nat.reduceLT, ↓reduceIte, reduceCtorEq, hl, e0, e1]
  rw [AW_region]
  refine AE_joinR (fun e h' => h = h' ∧ e.length = 38 ∧ e.getD 0 .undef = ut ∧ e.getD 1 .undef = .str dir ∧ e.getD 5 .undef = .val (.slice none 0 0)) (by
    simp only [↓WE, WA, WL, aop, ofValue, ofCell, isConst, abin, acall1, abuiltin, aun, AV.cells, AV.one, Nat.reduceAdd, Int.reduceLT, Int.reduceLE, ↓WD, W0, evalOp, Nat.reduceEqDiff, Nat.reduceLT, ↓reduceIte, reduceCtorEq, hl, e0, e1]
    refine ⟨rfl, ?_, ?_, ?_, ?_⟩ <;> simp only [List.length_set, W0, Nat.reduceEqDiff, Nat.reduceLT, ↓reduceIte, hl, e0, e1]) ?_
  rintro envg2 _ ⟨rfl, hl, e0, e1, e5⟩
  try simp only [↓WD, W0, evalOp, Nat.reduceEqDiff, Nat.reduceLT, ↓reduceIte, reduceCtorEq, hl, e0, e1, e5]
  rw [AW_region]
  refine AE_joinR (fun e h' => h = h' ∧ e.length = 38 ∧ e.getD 0 .undef = ut ∧ e.getD 1 .undef = .str dir ∧ e.getD 5 .undef = .val (.slice none 0 0) ∧ e.getD 6 .undef = .int .i64 0) (by
    simp only [↓WE, WA, WL, aop, ofValue, ofCell, isConst, abin, acall1, abuiltin, aun, AV.cells, AV.one, Nat.reduceAdd, Int.reduceLT, Int.reduceLE, ↓WD, W0, evalOp, Nat.reduceEqDiff, Nat.reduceLT, ↓reduceIte, reduceCtorEq, hl, e0, e1, e5]
    refine ⟨rfl, ?_, ?_, ?_, ?_, ?_⟩ <;> simp only [List.length_set, W0, Nat.reduceEqDiff, Nat.reduceLT, ↓reduceIte, hl, e0, e1, e5]) ?_
  rintro envg3 _ ⟨rfl, hl, e0, e1, e5, e6⟩
  try simp only [↓WD, W0, evalOp, Nat.reduceEqDiff, Nat.reduceLT, ↓reduceIte, reduceCtorEq, hl, e0, e1, e5, e6]
  have S66 : Sep h [] h [.row (.val (.slice none 0 0)) 75 5 (([] : List Gapi_Node).map Gapi_Node.cells)] := S0.nilrow 75 5
  obtain ⟨r136, qr136, hF⟩ := obind hF
  refine AW_lift (L_ref39_Under_1 t dir) (fun s e h' => ∃ (u74 : AV), e.length = 38 ∧ e.getD 0 .undef = ut ∧ e.getD 1 .undef = .str dir ∧ e.getD 5 .undef = u74 ∧ e.getD 6 .undef = .int .i64 s.2 ∧ Sep h [] h' [.row u74 75 5 (s.1.map Gapi_Node.cells)]) (fun r136 x e h' => ∃ (u137 : AV), x = .exit 0 ∧ e.length = 38 ∧ e.getD 5 .undef = u137 ∧ Sep h [] h' [.row u137 75 5 (r136.map Gapi_Node.cells)]) qr136 (by omega) ?_ ?_ ?_
  · rintro s envr136 h75 or136 ⟨u74, hl, e0, e1, e5, e6, S76⟩ wr136
    rw [L_ref39_Under_1] at wr136
    try simp only [↓WD, W0, evalOp, Nat.reduceEqDiff, Nat.reduceLT, ↓reduceIte, reduceCtorEq, hl, e0, e1, e5, e6]
    rw [AW_region]
    have ol77 := RO.len (P := Try.prog) sl_67 (S76.ro hut)
    rw [List.length_map] at ol77
    refine AE_joinR (fun e h' => h75 = h' ∧ e.length = 38 ∧ e.getD 0 .undef = ut ∧ e.getD 1 .undef = .str dir ∧ e.getD 5 .undef = u74 ∧ e.getD 6 .undef = .int .i64 s.2 ∧ e.getD 11 .undef = .bool (decide (s.2 < (t.length : Int)))) (by
      simp only [↓WE, WA, WL, aop, ofValue, ofCell, isConst, abin, acall1, abuiltin, aun, AV.cells, AV.one, Nat.reduceAdd, Int.reduceLT, Int.reduceLE, ↓WD, W0, evalOp, Nat.reduceEqDiff, Nat.reduceLT, ↓reduceIte, reduceCtorEq, hl, e0, e1, e5, e6, ol77]
      refine ⟨rfl, ?_, ?_, ?_, ?_, ?_, ?_⟩ <;> simp only [List.length_set, W0, Nat.reduceEqDiff, Nat.reduceLT, ↓reduceIte, hl, e0, e1, e5, e6]) ?_
    rintro envg78 _ ⟨rfl, hl, e0, e1, e5, e6, e11⟩
    try simp only [↓WD, W0, evalOp, Nat.reduceEqDiff, Nat.reduceLT, ↓reduceIte, reduceCtorEq, hl, e0, e1, e5, e6, e11]
    refine CondK_dec (fun c80 => ?_) (fun c80 => ?_)
    · rw [if_pos c80] at wr136
      try simp only [↓WD, W0, evalOp, Nat.reduceEqDiff, Nat.reduceLT, ↓reduceIte, reduceCtorEq, hl, e0, e1, e5, e6, e11]
      rw [AW_region]
      obtain ⟨x81, qx81, wr136⟩ := obind wr136
      obtain ⟨i82, off83, oi84, hp85⟩ := RO.addr (P := Try.prog) sl_67 (S76.ro hut) qx81
      have ol86 := RO.ld (P := Try.prog) (S76.ro hut) hp85 qx81 (t := 75) (o := 0) (v := .agg [.str x81.xPath, .bool x81.xDir, .str x81.xData, .int .i64 x81.xMode, .int .i64 x81.xTime]) (by omega) (by simp only [apart, ag_75, sz_75]; rfl)
      simp only [Nat.add_zero] at ol86
      obtain ⟨i87, h88, oa89, S90⟩ := S76.alloc 75 [.str [], .bool false, .str [], .int .i64 0, .int .i64 0]
      have S92 : Sep h [] h88 [.row u74 75 5 (s.1.map Gapi_Node.cells), .blk i87 [.str [], .bool false, .str [], .int .i64 0, .int .i64 0] 75] := S90
      obtain ⟨h93, os94, S95⟩ := S92.store (P := Try.prog) 1 rfl (t := 75) (off := 0) (v := .agg [.str x81.xPath, .bool x81.xDir, .str x81.xData, .int .i64 x81.xMode, .int .i64 x81.xTime]) (c' := [.str x81.xPath, .bool x81.xDir, .str x81.xData, .int .i64 x81.xMode, .int .i64 x81.xTime]) rfl sz_75 rfl (by simp) rfl
      have S96 : Sep h [] h93 [.row u74 75 5 (s.1.map Gapi_Node.cells), .blk i87 [.str x81.xPath, .bool x81.xDir, .str x81.xData, .int .i64 x81.xMode, .int .i64 x81.xTime] 75] := S95
      refine AE_joinR (fun e h' => h93 = h' ∧ e.length = 38 ∧ e.getD 0 .undef = ut ∧ e.getD 1 .undef = .str dir ∧ e.getD 5 .undef = u74 ∧ e.getD 6 .undef = .int .i64 s.2 ∧ e.getD 7 .undef = .ptr i87 0) (by
        simp only [↓WE, WA, WL, aop, ofValue, ofCell, isConst, abin, acall1, abuiltin, aun, AV.cells, AV.one, Nat.reduceAdd, Int.reduceLT, Int.reduceLE, ↓WD, W0, evalOp, Nat.reduceEqDiff, Nat.reduceLT, ↓reduceIte, reduceCtorEq, hl, e0, e1, e5, e6, e11, oi84, ol86, zero_75, oa89, os94]
        refine ⟨rfl, ?_, ?_, ?_, ?_, ?_, ?_⟩ <;> simp only [List.length_set, W0, Nat.reduceEqDiff, Nat.reduceLT, ↓reduceIte, hl, e0, e1, e5, e6, e11]) ?_
      rintro envg97 _ ⟨rfl, hl, e0, e1, e5, e6, e7⟩
      try simp only [↓WD, W0, evalOp, Nat.reduceEqDiff, Nat.reduceLT, ↓reduceIte, reduceCtorEq, hl, e0, e1, e5, e6, e7]
      rw [AW_region]
      have ol98 := S96.load (P := Try.prog) 1 rfl (t := 9) (off := 0) (v := .str x81.xPath) (by simp only [apart, ag_9, sz_9]; rfl)
      obtain ⟨y99, qy99, wr136⟩ := obind wr136
      have og100 := fun (D : Drawn) (n : Nat) (g : AH) => call_hook (P := Try.prog) (D := D) k96 n (args := [.str x81.xPath, .str dir]) (v := .bool y99) ((kf_96_eq x81.xPath dir).trans (by rw [qy99]; rfl)) g
      refine AE_joinR (fun e h' => h93 = h' ∧ e.length = 38 ∧ e.getD 0 .undef = ut ∧ e.getD 1 .undef = .str dir ∧ e.getD 5 .undef = u74 ∧ e.getD 6 .undef = .int .i64 s.2 ∧ e.getD 7 .undef = .ptr i87 0 ∧ e.getD 22 .undef = .bool !y99) (by
        simp only [↓WE, WA, WL, aop, ofValue, ofCell, isConst, abin, acall1, abuiltin, aun, AV.cells, AV.one, Nat.reduceAdd, Int.reduceLT, Int.reduceLE, ↓WD, W0, evalOp, Nat.reduceEqDiff, Nat.reduceLT, ↓reduceIte, reduceCtorEq, hl, e0, e1, e5, e6, e7, fa_75_0, ol98, og100]
        refine ⟨rfl, ?_, ?_, ?_, ?_, ?_, ?_, ?_⟩ <;> simp only [List.length_set, W0, Nat.reduceEqDiff, Nat.reduceLT, ↓reduceIte, hl, e0, e1, e5, e6, e7]) ?_
      rintro envg101 _ ⟨rfl, hl, e0, e1, e5, e6, e7, e22⟩
      try simp only [↓WD, W0, evalOp, Nat.reduceEqDiff, Nat.reduceLT, ↓reduceIte, reduceCtorEq, hl, e0, e1, e5, e6, e7, e22]
      refine CondK_boo (fun c104 => ?_) (fun c104 => ?_)
      · rw [if_pos c104] at wr136
        try simp only [↓WD, W0, evalOp, Nat.reduceEqDiff, Nat.reduceLT, ↓reduceIte, reduceCtorEq, hl, e0, e1, e5, e6, e7, e22]
        rw [AW_region]
        refine AE_joinR (fun e h' => h93 = h' ∧ e.length = 38 ∧ e.getD 0 .undef = ut ∧ e.getD 1 .undef = .str dir ∧ e.getD 5 .undef = u74 ∧ e.getD 6 .undef = .int .i64 (IntKind.i64.wrap (s.2 + 1))) (by
          simp only [↓WE, WA, WL, aop, ofValue, ofCell, isConst, abin, acall1, abuiltin, aun, AV.cells, AV.one, Nat.reduceAdd, Int.reduceLT, Int.reduceLE, ↓WD, W0, evalOp, Nat.reduceEqDiff, Nat.reduceLT, ↓reduceIte, reduceCtorEq, hl, e0, e1, e5, e6, e7, e22]
          refine ⟨rfl, ?_, ?_, ?_, ?_, ?_⟩ <;> simp only [List.length_set, W0, Nat.reduceEqDiff, Nat.reduceLT, ↓reduceIte, hl, e0, e1, e5, e6, e7, e22]) ?_
        rintro envg105 _ ⟨rfl, hl, e0, e1, e5, e6⟩
        try simp only [↓WD, W0, evalOp, Nat.reduceEqDiff, Nat.reduceLT, ↓reduceIte, reduceCtorEq, hl, e0, e1, e5, e6]
        obtain rfl := Option.some.inj wr136
        rw [KP_nil, QL_normal]
        refine ⟨_, rfl, u74, ?_, ?_, ?_, ?_, ?_, S96.pick [0] (by decide) rfl⟩ <;> simp only [List.length_set, W0, Nat.reduceEqDiff, Nat.reduceLT, ↓reduceIte, hl, e0, e1, e5, e6]
      · rw [if_neg (nf c104)] at wr136
        try simp only [↓WD, W0, evalOp, Nat.reduceEqDiff, Nat.reduceLT, ↓reduceIte, reduceCtorEq, hl, e0, e1, e5, e6, e7, e22]
        rw [AW_region]
        refine AE_joinR (fun e h' => h93 = h' ∧ e.length = 38 ∧ e.getD 0 .undef = ut ∧ e.getD 1 .undef = .str dir ∧ e.getD 5 .undef = u74 ∧ e.getD 6 .undef = .int .i64 s.2 ∧ e.getD 7 .undef = .ptr i87 0 ∧ e.getD 24 .undef = .bool (!(dir == []))) (by
          simp only [↓WE, WA, WL, aop, ofValue, ofCell, isConst, abin, acall1, abuiltin, aun, AV.cells, AV.one, Nat.reduceAdd, Int.reduceLT, Int.reduceLE, ↓WD, W0, evalOp, Nat.reduceEqDiff, Nat.reduceLT, ↓reduceIte, reduceCtorEq, hl, e0, e1, e5, e6, e7, e22]
          refine ⟨rfl, ?_, ?_, ?_, ?_, ?_, ?_, ?_⟩ <;> simp only [List.length_set, W0, Nat.reduceEqDiff, Nat.reduceLT, ↓reduceIte, hl, e0, e1, e5, e6, e7, e22]) ?_
        rintro envg106 _ ⟨rfl, hl, e0, e1, e5, e6, e7, e24⟩
        try simp only [↓WD, W0, evalOp, Nat.reduceEqDiff, Nat.reduceLT, ↓reduceIte, reduceCtorEq, hl, e0, e1, e5, e6, e7, e24]
        obtain ⟨j116, qj116, wr136⟩ := obind wr136
        refine CondK_join (fun e h' => e.length = 38 ∧ e.getD 0 .undef = ut ∧ e.getD 1 .undef = .str dir ∧ e.getD 5 .undef = u74 ∧ e.getD 6 .undef = .int .i64 s.2 ∧ e.getD 7 .undef = .ptr i87 0 ∧ Sep h [] h' [.row u74 75 5 (s.1.map Gapi_Node.cells), .blk i87 [.str j116, .bool x81.xDir, .str x81.xData, .int .i64 x81.xMode, .int .i64 x81.xTime] 75]) ?_ ?_
        · refine CondK_boo (fun c107 => ?_) (fun c107 => ?_)
          · rw [if_pos c107] at qj116
            try simp only [↓WD, W0, evalOp, Nat.reduceEqDiff, Nat.reduceLT, ↓reduceIte, reduceCtorEq, hl, e0, e1, e5, e6, e7, e24]
            rw [AW_region]
            have ol108 := S96.load (P := Try.prog) 1 rfl (t := 9) (off := 0) (v := .str x81.xPath) (by simp only [apart, ag_9, sz_9]; rfl)
            have ol109 := fun g : AH => alen_str (P := Try.prog) (h := g) (l := dir) Try.underlying9
            obtain ⟨s110, qs110, qj116⟩ := obind qj116
            have os110 := fun g : AH => sub_strF (P := Try.prog) (h := g) (k := .i64) Try.underlying9 qs110
            obtain ⟨h111, os112, S113⟩ := S96.store (P := Try.prog) 1 rfl (t := 9) (off := 0) (v := .str s110) (c' := [.str s110, .bool x81.xDir, .str x81.xData, .int .i64 x81.xMode, .int .i64 x81.xTime]) rfl sz_9 rfl (by simp) rfl
            have S114 : Sep h [] h111 [.row u74 75 5 (s.1.map Gapi_Node.cells), .blk i87 [.str s110, .bool x81.xDir, .str x81.xData, .int .i64 x81.xMode, .int .i64 x81.xTime] 75] := S113
            refine AE_joinR (fun e h' => h111 = h' ∧ e.length = 38 ∧ e.getD 0 .undef = ut ∧ e.getD 1 .undef = .str dir ∧ e.getD 5 .undef = u74 ∧ e.getD 6 .undef = .int .i64 s.2 ∧ e.getD 7 .undef = .ptr i87 0) (by
              simp only [↓WE, WA, WL, aop, ofValue, ofCell, isConst, abin, acall1, abuiltin, aun, AV.cells, AV.one, Nat.reduceAdd, Int.reduceLT, Int.reduceLE, ↓WD, W0, evalOp, Nat.reduceEqDiff, Nat.reduceLT, ↓reduceIte, reduceCtorEq, hl, e0, e1, e5, e6, e7, e24, fa_75_0, ol108, ol109, os110, os112]
              refine ⟨rfl, ?_, ?_, ?_, ?_, ?_, ?_⟩ <;> simp only [List.length_set, W0, Nat.reduceEqDiff, Nat.reduceLT, ↓reduceIte, hl, e0, e1, e5, e6, e7, e24]) ?_
            rintro envg115 _ ⟨rfl, hl, e0, e1, e5, e6, e7⟩
            try simp only [↓WD, W0, evalOp, Nat.reduceEqDiff, Nat.reduceLT, ↓reduceIte, reduceCtorEq, hl, e0, e1, e5, e6, e7]
            rw [KP_nil, KJ_normal]
            obtain rfl := Option.some.inj qj116
            refine ⟨?_, ?_, ?_, ?_, ?_, ?_, S114⟩ <;> simp only [List.length_set, W0, Nat.reduceEqDiff, Nat.reduceLT, ↓reduceIte, hl, e0, e1, e5, e6, e7]
          · rw [if_neg (nf c107)] at qj116
            try simp only [↓WD, W0, evalOp, Nat.reduceEqDiff, Nat.reduceLT, ↓reduceIte, reduceCtorEq, hl, e0, e1, e5, e6, e7, e24]
            rw [KP_nil, KJ_normal]
            obtain rfl := Option.some.inj qj116
            refine ⟨?_, ?_, ?_, ?_, ?_, ?_, S96⟩ <;> simp only [List.length_set, W0, Nat.reduceEqDiff, Nat.reduceLT, ↓reduceIte, hl, e0, e1, e5, e6, e7, e24]
        · rintro envj116 h118 ⟨hl, e0, e1, e5, e6, e7, S117⟩
          try simp only [↓WD, W0, evalOp, Nat.reduceEqDiff, Nat.reduceLT, ↓reduceIte, reduceCtorEq, hl, e0, e1, e5, e6, e7]
          rw [AW_region]
          have ol119 := S117.load (P := Try.prog) 1 rfl (t := 75) (off := 0) (v := .agg [.str j116, .bool x81.xDir, .str x81.xData, .int .i64 x81.xMode, .int .i64 x81.xTime]) (by simp only [apart, ag_75, sz_75]; rfl)
          obtain ⟨u120, h121, ob122, S123⟩ := Sep.build (P := Try.prog) sl_67 S117 [.agg [.str j116, .bool x81.xDir, .str x81.xData, .int .i64 x81.xMode, .int .i64 x81.xTime]] (([(⟨j116, x81.xDir, x81.xData, x81.xMode, x81.xTime⟩ : Gapi_Node)] : List Gapi_Node).map Gapi_Node.cells) rfl (by simp [Gapi_Node.cells]) (by simp)
          have ob122 : abuildSlice Try.prog 67 1 [(0, .agg [.str j116, .bool x81.xDir, .str x81.xData, .int .i64 x81.xMode, .int .i64 x81.xTime])] h118 = some (u120, h121) := ob122
          have S125 : Sep h [] h121 [.row u74 75 5 (s.1.map Gapi_Node.cells), .blk i87 [.str j116, .bool x81.xDir, .str x81.xData, .int .i64 x81.xMode, .int .i64 x81.xTime] 75, .row u120 75 5 (([(⟨j116, x81.xDir, x81.xData, x81.xMode, x81.xTime⟩ : Gapi_Node)] : List Gapi_Node).map Gapi_Node.cells)] := S123
          obtain ⟨zs126, qzs126, wr136⟩ := obind wr136
          obtain ⟨u127, h128, op129, S130⟩ := Sep.append (P := Try.prog) (t' := 67) sl_67 (by rw [Try.underlying67]; rfl) S125 0 rfl (S125.row_ro (i := 2) rfl) (fun _ => rfl) qzs126
          have S131 : Sep h [] h128 [.row u127 75 5 (zs126.map Gapi_Node.cells), .blk i87 [.str j116, .bool x81.xDir, .str x81.xData, .int .i64 x81.xMode, .int .i64 x81.xTime] 75, .row u120 75 5 (([(⟨j116, x81.xDir, x81.xData, x81.xMode, x81.xTime⟩ : Gapi_Node)] : List Gapi_Node).map Gapi_Node.cells)] := S130
          refine AE_joinR (fun e h' => h128 = h' ∧ e.length = 38 ∧ e.getD 0 .undef = ut ∧ e.getD 1 .undef = .str dir ∧ e.getD 5 .undef = u127 ∧ e.getD 6 .undef = .int .i64 s.2) (by
            simp only [↓WE, WA, WL, aop, ofValue, ofCell, isConst, abin, acall1, abuiltin, aun, AV.cells, AV.one, Nat.reduceAdd, Int.reduceLT, Int.reduceLE, ↓WD, W0, evalOp, Nat.reduceEqDiff, Nat.reduceLT, ↓reduceIte, reduceCtorEq, hl, e0, e1, e5, e6, e7, ol119, ob122, op129]
            refine ⟨rfl, ?_, ?_, ?_, ?_, ?_⟩ <;> simp only [List.length_set, W0, Nat.reduceEqDiff, Nat.reduceLT, ↓reduceIte, hl, e0, e1, e5, e6, e7]) ?_
          rintro envg132 _ ⟨rfl, hl, e0, e1, e5, e6⟩
          try simp only [↓WD, W0, evalOp, Nat.reduceEqDiff, Nat.reduceLT, ↓reduceIte, reduceCtorEq, hl, e0, e1, e5, e6]
          rw [AW_region]
          refine AE_joinR (fun e h' => h128 = h' ∧ e.length = 38 ∧ e.getD 0 .undef = ut ∧ e.getD 1 .undef = .str dir ∧ e.getD 5 .undef = u127 ∧ e.getD 6 .undef = .int .i64 (IntKind.i64.wrap (s.2 + 1))) (by
            simp only [↓WE, WA, WL, aop, ofValue, ofCell, isConst, abin, acall1, abuiltin, aun, AV.cells, AV.one, Nat.reduceAdd, Int.reduceLT, Int.reduceLE, ↓WD, W0, evalOp, Nat.reduceEqDiff, Nat.reduceLT, ↓reduceIte, reduceCtorEq, hl, e0, e1, e5, e6]
            refine ⟨rfl, ?_, ?_, ?_, ?_, ?_⟩ <;> simp only [List.length_set, W0, Nat.reduceEqDiff, Nat.reduceLT, ↓reduceIte, hl, e0, e1, e5, e6]) ?_
          rintro envg133 _ ⟨rfl, hl, e0, e1, e5, e6⟩
          try simp only [↓WD, W0, evalOp, Nat.reduceEqDiff, Nat.reduceLT, ↓reduceIte, reduceCtorEq, hl, e0, e1, e5, e6]
          obtain rfl := Option.some.inj wr136
          rw [KP_nil, QL_normal]
          refine ⟨_, rfl, u127, ?_, ?_, ?_, ?_, ?_, S131.pick [0] (by decide) rfl⟩ <;> simp only [List.length_set, W0, Nat.reduceEqDiff, Nat.reduceLT, ↓reduceIte, hl, e0, e1, e5, e6]
    · rw [if_neg c80] at wr136
      try simp only [↓WD, W0, evalOp, Nat.reduceEqDiff, Nat.reduceLT, ↓reduceIte, reduceCtorEq, hl, e0, e1, e5, e6, e11]
      obtain rfl := Option.some.inj wr136
      rw [KP_nil, QL_exit]
      refine ⟨_, rfl, u74, rfl, ?_, ?_, S76⟩ <;> simp only [List.length_set, W0, Nat.reduceEqDiff, Nat.reduceLT, ↓reduceIte, hl, e0, e1, e5, e6, e11]
  · refine ⟨.val (.slice none 0 0), ?_, ?_, ?_, ?_, ?_, S66⟩ <;> simp only [List.length_set, W0, Nat.reduceEqDiff, Nat.reduceLT, ↓reduceIte, hl, e0, e1, e5, e6]
  · rintro x envr136 h138 ⟨u137, rfl, hl, e5, S139⟩
    try simp only [↓WD, W0, evalOp, Nat.reduceEqDiff, Nat.reduceLT, ↓reduceIte, reduceCtorEq, hl, e5]
    rw [AW_region]
    obtain ⟨y140, qy140, hF⟩ := obind hF
    obtain ⟨v144, h142, og141, rfl, S143⟩ := (W_ref39_Tree k15 k50 n93 n52 m (by omega) h138 u137 r136 (S139.row_ro (i := 0) rfl) qy140).out
    have S145 : Sep h [] h142 [.row u137 75 5 (r136.map Gapi_Node.cells)] := S139.call0 S143
    refine AE_joinR (fun e h' => h142 = h' ∧ e.length = 38 ∧ e.getD 4 .undef = .str y140) (by
      simp only [↓WE, WA, WL, aop, ofValue, ofCell, isConst, abin, acall1, abuiltin, aun, AV.cells, AV.one, Nat.reduceAdd, Int.reduceLT, Int.reduceLE, ↓WD, W0, evalOp, Nat.reduceEqDiff, Nat.reduceLT, ↓reduceIte, reduceCtorEq, hl, e5, og141]
      refine ⟨rfl, ?_, ?_⟩ <;> simp only [List.length_set, W0, Nat.reduceEqDiff, Nat.reduceLT, ↓reduceIte, hl, e5]) ?_
    rintro envg146 _ ⟨rfl, hl, e4⟩
    try simp only [↓WD, W0, evalOp, Nat.reduceEqDiff, Nat.reduceLT, ↓reduceIte, reduceCtorEq, hl, e4]
    refine KP_ret (vs := [.str y140]) (by simp only [aresults, aresult, gs, List.length_set, Nat.reduceEqDiff, Nat.reduceLT, ↓reduceIte, hl, e4]) ?_
    obtain rfl := Option.some.inj hF
    exact ⟨rfl, S145.pick [] (by decide) rfl⟩
theorem W_ref39_Find {K : PureK} (k15 : K 15 = some kf_15) (n57 : K 57 = none) (m : Nat) (hm : NF + 1 ≤ m) (h : AH) (ut : AV) (t : List Gapi_Node) (hut : RO 5 ut h (t.map Gapi_Node.cells)) (key : List UInt8) {r : (List (List UInt8))} (hF : F_ref39_Find t key = some r) :
    AR (acall Try.prog (hooksOf K) (drawnOf Try.prog (tabOf K)) m 57 [ut, .str key] h) (fun v h' => ∃ w0 : AV, v = w0 ∧ Sep h [] h' [.row w0 9 1 (r.map cellS)]) := by
  obtain ⟨m, rfl⟩ : ∃ k, m = k + 1 := ⟨m - 1, by omega⟩
  refine AR_call (hooksOf_none n57) Try.func57 rfl _ _ fun env hl he => ?_
  have e0 := he 0
  have e1 := he 1
  simp only [List.getD_cons_zero, List.getD_cons_succ] at e0 e1
  simp only [Try.f57] at hl ⊢
  simp only [List.length_cons, List.length_nil, Nat.reduceAdd, Nat.reduceSub] at hl
  clear he
  have S0 : Sep h [] h [] := Sep.nil h
  rw [F_ref39_Find] at hF
  try simp only [↓WD, W0, evalOp, Nat.reduceEqDiff, Nat.reduceLT, ↓reduceIte, reduceCtorEq, hl, e0, e1]
  rw [AW_region]
  refine AE_joinR (fun e h' => h = h' ∧ e.length = 38 ∧ e.getD 0 .undef = ut ∧ e.getD 1 .undef = .str key) (by
    simp only [↓WE, WA, WL, aop, ofValue, ofCell, isConst, abin, acall1, abuiltin, aun, AV.cells, AV.one, Nat.reduceAdd, Int.reduceLT, Int.reduceLE, ↓WD, W0, evalOp, Nat.reduceEqDiff, Nat.reduceLT, ↓reduceIte, reduceCtorEq, hl, e0, e1]
    refine ⟨rfl, ?_, ?_, ?_⟩ <;> simp only [List.length_set, W0, Nat.reduceEqDiff, Nat.reduceLT, ↓reduceIte, hl, e0, e1]) ?_
  rintro envg1 _ ⟨rfl, hl, e0, e1⟩
  try simp only [↓WD, W0, evalOp, Nat.reduceEqDiff, Nat.reduceLT, ↓reduceIte, reduceCtorEq, hl, e0, e1]
  rw [AW_region]
  refine AE_joinR (fun e h' => h = h' ∧ e.length = 38 ∧ e.getD 0 .undef = ut ∧ e.getD 1 .undef = .str key ∧ e.getD 5 .undef = .val (.slice none 0 0)) (by
    simp only [↓WE, WA, WL, aop, ofValue, ofCell, isConst, abin, acall1, abuiltin, aun, AV.cells, AV.one, Nat.reduceAdd, Int.reduceLT, Int.reduceLE, ↓WD, W0, evalOp, Nat.reduceEqDiff, Nat.reduceLT, ↓reduceIte, reduceCtorEq, hl, e0, e1]
    refine ⟨rfl, ?_, ?_, ?_, ?_⟩ <;> simp only [List.length_set, W0, Nat.reduceEqDiff, Nat.reduceLT, ↓reduceIte, hl, e0, e1]) ?_
  rintro envg2 _ ⟨rfl, hl, e0, e1, e5⟩
  try simp only [↓WD, W0, evalOp, Nat.reduceEqDiff, Nat.reduceLT, ↓reduceIte, reduceCtorEq, hl, e0, e1, e5]
  rw [AW_region]
  refine AE_joinR (fun e h' => h = h' ∧ e.length = 38 ∧ e.getD 0 .undef = ut ∧ e.getD 1 .undef = .str key ∧ e.getD 5 .undef = .val (.slice none 0 0) ∧ e.getD 6 .undef = .int .i64 0) (by
    simp only [↓WE, WA, WL, aop, ofValue, ofCell, isConst, abin, acall1, abuiltin, aun, AV.cells, AV.one, Nat.reduceAdd, Int.reduceLT, Int.reduceLE, ↓WD, W0, evalOp, Nat.reduceEqDiff, Nat.reduceLT, ↓reduceIte, reduceCtorEq, hl, e0, e1, e5]
    refine ⟨rfl, ?_, ?_, ?_, ?_, ?_⟩ <;> simp only [List.length_set, W0, Nat.reduceEqDiff, Nat.reduceLT, ↓reduceIte, hl, e0, e1, e5]) ?_
  rintro envg3 _ ⟨rfl, hl, e0, e1, e5, e6⟩
  try simp only [↓WD, W0, evalOp, Nat.reduceEqDiff, Nat.reduceLT, ↓reduceIte, reduceCtorEq, hl, e0, e1, e5, e6]
  have S77 : Sep h [] h [.row (.val (.slice none 0 0)) 9 1 (([] : List (List UInt8)).map cellS)] := S0.nilrow 9 1
  obtain ⟨r154, qr154, hF⟩ := obind hF
  refine AW_lift (L_ref39_Find_1 t key) (fun s e h' => ∃ (u83 : AV), e.length = 38 ∧ e.getD 0 .undef = ut ∧ e.getD 1 .undef = .str key ∧ e.getD 5 .undef = u83 ∧ e.getD 6 .undef = .int .i64 s.2 ∧ Sep h [] h' [.row u83 9 1 (s.1.map cellS)]) (fun r154 x e h' => ∃ (u155 : AV), x = .exit 0 ∧ e.length = 38 ∧ e.getD 5 .undef = u155 ∧ Sep h [] h' [.row u155 9 1 (r154.map cellS)]) qr154 (by omega) ?_ ?_ ?_
  · rintro s envr154 h84 or154 ⟨u83, hl, e0, e1, e5, e6, S85⟩ wr154
    rw [L_ref39_Find_1] at wr154
    try simp only [↓WD, W0, evalOp, Nat.reduceEqDiff, Nat.reduceLT, ↓reduceIte, reduceCtorEq, hl, e0, e1, e5, e6]
    rw [AW_region]
    have ol86 := RO.len (P := Try.prog) sl_67 (S85.ro hut)
    rw [List.length_map] at ol86
    refine AE_joinR (fun e h' => h84 = h' ∧ e.length = 38 ∧ e.getD 0 .undef = ut ∧ e.getD 1 .undef = .str key ∧ e.getD 5 .undef = u83 ∧ e.getD 6 .undef = .int .i64 s.2 ∧ e.getD 10 .undef = .bool (decide (s.2 < (t.length : Int)))) (by
      simp only [↓WE, WA, WL, aop, ofValue, ofCell, isConst, abin, acall1, abuiltin, aun, AV.cells, AV.one, Nat.reduceAdd, Int.reduceLT, Int.reduceLE, ↓WD, W0, evalOp, Nat.reduceEqDiff, Nat.reduceLT, ↓reduceIte, reduceCtorEq, hl, e0, e1, e5, e6, ol86]
      refine ⟨rfl, ?_, ?_, ?_, ?_, ?_, ?_⟩ <;> simp only [List.length_set, W0, Nat.reduceEqDiff, Nat.reduceLT, ↓reduceIte, hl, e0, e1, e5, e6]) ?_
    rintro envg87 _ ⟨rfl, hl, e0, e1, e5, e6, e10⟩
    try simp only [↓WD, W0, evalOp, Nat.reduceEqDiff, Nat.reduceLT, ↓reduceIte, reduceCtorEq, hl, e0, e1, e5, e6, e10]
    refine CondK_dec (fun c89 => ?_) (fun c89 => ?_)
    · rw [if_pos c89] at wr154
      try simp only [↓WD, W0, evalOp, Nat.reduceEqDiff, Nat.reduceLT, ↓reduceIte, reduceCtorEq, hl, e0, e1, e5, e6, e10]
      rw [AW_region]
      obtain ⟨j107, qj107, wr154⟩ := obind wr154
      refine AE_joinR (fun e h' => e.length = 38 ∧ e.getD 0 .undef = ut ∧ e.getD 1 .undef = .str key ∧ e.getD 5 .undef = u83 ∧ e.getD 6 .undef = .int .i64 s.2 ∧ e.getD 28 .undef = .bool j107 ∧ Sep h [] h' [.row u83 9 1 (s.1.map cellS)]) ?_ ?_
      · obtain ⟨x90, qx90, qj107⟩ := obind qj107
        obtain ⟨i91, off92, oi93, hp94⟩ := RO.addr (P := Try.prog) sl_67 (S85.ro hut) qx90
        have ol95 := RO.ld (P := Try.prog) (S85.ro hut) hp94 qx90 (t := 4) (o := 1) (v := .bool x90.xDir) (by omega) (by simp only [apart, ag_4, sz_4]; rfl)
        simp only [↓WE, WA, WL, aop, ofValue, ofCell, isConst, abin, acall1, abuiltin, aun, AV.cells, AV.one, Nat.reduceAdd, Int.reduceLT, Int.reduceLE, ↓WD, W0, evalOp, Nat.reduceEqDiff, Nat.reduceLT, ↓reduceIte, reduceCtorEq, hl, e0, e1, e5, e6, e10, oi93, fa_75_1, ol95]
        refine GuardW_boo (fun c96 => ?_) (fun c96 => ?_)
        · rw [if_pos c96] at qj107
          have d97 := c96
          have ol104 := RO.ld (P := Try.prog) (S85.ro hut) hp94 qx90 (t := 9) (o := 2) (v := .str x90.xData) (by omega) (by simp only [apart, ag_9, sz_9]; rfl)
          obtain ⟨y105, qy105, qj107⟩ := obind qj107
          have og106 := fun (D : Drawn) (n : Nat) (g : AH) => call_hook (P := Try.prog) (D := D) k15 n (args := [.str x90.xData]) (v := .str y105) ((kf_15_eq x90.xData).trans (by rw [qy105]; rfl)) g
          simp only [↓WE, WA, WL, aop, ofValue, ofCell, isConst, abin, acall1, abuiltin, aun, AV.cells, AV.one, Nat.reduceAdd, Int.reduceLT, Int.reduceLE, ↓WD, W0, evalOp, Nat.reduceEqDiff, Nat.reduceLT, ↓reduceIte, reduceCtorEq, hl, e0, e1, e5, e6, e10, oi93, fa_75_1, ol95, fa_75_2, ol104, og106, d97]
          obtain rfl := Option.some.inj qj107
          refine ⟨?_, ?_, ?_, ?_, ?_, ?_, S85⟩ <;> simp only [List.length_set, W0, Nat.reduceEqDiff, Nat.reduceLT, ↓reduceIte, hl, e0, e1, e5, e6, e10]
        · rw [if_neg (nf c96)] at qj107
          have d98 := c96
          simp only [↓WE, WA, WL, aop, ofValue, ofCell, isConst, abin, acall1, abuiltin, aun, AV.cells, AV.one, Nat.reduceAdd, Int.reduceLT, Int.reduceLE, ↓WD, W0, evalOp, Nat.reduceEqDiff, Nat.reduceLT, ↓reduceIte, reduceCtorEq, hl, e0, e1, e5, e6, e10, oi93, fa_75_1, ol95, d98]
          obtain rfl := Option.some.inj qj107
          refine ⟨?_, ?_, ?_, ?_, ?_, ?_, S85⟩ <;> simp only [List.length_set, W0, Nat.reduceEqDiff, Nat.reduceLT, ↓reduceIte, hl, e0, e1, e5, e6, e10]
      · rintro envj107 h109 ⟨hl, e0, e1, e5, e6, e28, S108⟩
        try simp only [↓WD, W0, evalOp, Nat.reduceEqDiff, Nat.reduceLT, ↓reduceIte, reduceCtorEq, hl, e0, e1, e5, e6, e28]
        refine CondK_boo (fun c130 => ?_) (fun c130 => ?_)
        · rw [if_pos c130] at wr154
          try simp only [↓WD, W0, evalOp, Nat.reduceEqDiff, Nat.reduceLT, ↓reduceIte, reduceCtorEq, hl, e0, e1, e5, e6, e28]
          rw [AW_region]
          obtain ⟨x131, qx131, wr154⟩ := obind wr154
          obtain ⟨i132, off133, oi134, hp135⟩ := RO.addr (P := Try.prog) sl_67 (S108.ro hut) qx131
          have ol136 := RO.ld (P := Try.prog) (S108.ro hut) hp135 qx131 (t := 9) (o := 0) (v := .str x131.xPath) (by omega) (by simp only [apart, ag_9, sz_9]; rfl)
          simp only [Nat.add_zero] at ol136
          obtain ⟨u137, h138, ob139, S140⟩ := Sep.build (P := Try.prog) sl_51 S108 [.str x131.xPath] (([x131.xPath] : List (List UInt8)).map cellS) rfl (by simp [cellS]) (by simp)
          have ob139 : abuildSlice Try.prog 51 1 [(0, .str x131.xPath)] h109 = some (u137, h138) := ob139
          have S142 : Sep h [] h138 [.row u83 9 1 (s.1.map cellS), .row u137 9 1 (([x131.xPath] : List (List UInt8)).map cellS)] := S140
          obtain ⟨zs143, qzs143, wr154⟩ := obind wr154
          obtain ⟨u144, h145, op146, S147⟩ := Sep.append (P := Try.prog) (t' := 51) sl_51 (by rw [Try.underlying51]; rfl) S142 0 rfl (S142.row_ro (i := 1) rfl) (fun _ => rfl) qzs143
          have S148 : Sep h [] h145 [.row u144 9 1 (zs143.map cellS), .row u137 9 1 (([x131.xPath] : List (List UInt8)).map cellS)] := S147
          refine AE_joinR (fun e h' => h145 = h' ∧ e.length = 38 ∧ e.getD 0 .undef = ut ∧ e.getD 1 .undef = .str key ∧ e.getD 5 .undef = u144 ∧ e.getD 6 .undef = .int .i64 s.2) (by
            simp only [↓WE, WA, WL, aop, ofValue, ofCell, isConst, abin, acall1, abuiltin, aun, AV.cells, AV.one, Nat.reduceAdd, Int.reduceLT, Int.reduceLE, ↓WD, W0, evalOp, Nat.reduceEqDiff, Nat.reduceLT, ↓reduceIte, reduceCtorEq, hl, e0, e1, e5, e6, e28, oi134, fa_75_0, ol136, ob139, op146]
            refine ⟨rfl, ?_, ?_, ?_, ?_, ?_⟩ <;> simp only [List.length_set, W0, Nat.reduceEqDiff, Nat.reduceLT, ↓reduceIte, hl, e0, e1, e5, e6, e28]) ?_
          rintro envg149 _ ⟨rfl, hl, e0, e1, e5, e6⟩
          try simp only [↓WD, W0, evalOp, Nat.reduceEqDiff, Nat.reduceLT, ↓reduceIte, reduceCtorEq, hl, e0, e1, e5, e6]
          rw [AW_region]
          refine AE_joinR (fun e h' => h145 = h' ∧ e.length = 38 ∧ e.getD 0 .undef = ut ∧ e.getD 1 .undef = .str key ∧ e.getD 5 .undef = u144 ∧ e.getD 6 .undef = .int .i64 (IntKind.i64.wrap (s.2 + 1))) (by
            simp only [↓WE, WA, WL, aop, ofValue, ofCell, isConst, abin, acall1, abuiltin, aun, AV.cells, AV.one, Nat.reduceAdd, Int.reduceLT, Int.reduceLE, ↓WD, W0, evalOp, Nat.reduceEqDiff, Nat.reduceLT, ↓reduceIte, reduceCtorEq, hl, e0, e1, e5, e6]
            refine ⟨rfl, ?_, ?_, ?_, ?_, ?_⟩ <;> simp only [List.length_set, W0, Nat.reduceEqDiff, Nat.reduceLT, ↓reduceIte, hl, e0, e1, e5, e6]) ?_
          rintro envg150 _ ⟨rfl, hl, e0, e1, e5, e6⟩
          try simp only [↓WD, W0, evalOp, Nat.reduceEqDiff, Nat.reduceLT, ↓reduceIte, reduceCtorEq, hl, e0, e1, e5, e6]
          obtain rfl := Option.some.inj wr154
          rw [KP_nil, QL_normal]
          refine ⟨_, rfl, u144, ?_, ?_, ?_, ?_, ?_, S148.pick [0] (by decide) rfl⟩ <;> simp only [List.length_set, W0, Nat.reduceEqDiff, Nat.reduceLT, ↓reduceIte, hl, e0, e1, e5, e6]
        · rw [if_neg (nf c130)] at wr154
          try simp only [↓WD, W0, evalOp, Nat.reduceEqDiff, Nat.reduceLT, ↓reduceIte, reduceCtorEq, hl, e0, e1, e5, e6, e28]
          rw [AW_region]
          refine AE_joinR (fun e h' => h109 = h' ∧ e.length = 38 ∧ e.getD 0 .undef = ut ∧ e.getD 1 .undef = .str key ∧ e.getD 5 .undef = u83 ∧ e.getD 6 .undef = .int .i64 (IntKind.i64.wrap (s.2 + 1))) (by
            simp only [↓WE, WA, WL, aop, ofValue, ofCell, isConst, abin, acall1, abuiltin, aun, AV.cells, AV.one, Nat.reduceAdd, Int.reduceLT, Int.reduceLE, ↓WD, W0, evalOp, Nat.reduceEqDiff, Nat.reduceLT, ↓reduceIte, reduceCtorEq, hl, e0, e1, e5, e6, e28]
            refine ⟨rfl, ?_, ?_, ?_, ?_, ?_⟩ <;> simp only [List.length_set, W0, Nat.reduceEqDiff, Nat.reduceLT, ↓reduceIte, hl, e0, e1, e5, e6, e28]) ?_
          rintro envg151 _ ⟨rfl, hl, e0, e1, e5, e6⟩
          try simp only [↓WD, W0, evalOp, Nat.reduceEqDiff, Nat.reduceLT, ↓reduceIte, reduceCtorEq, hl, e0, e1, e5, e6]
          obtain rfl := Option.some.inj wr154
          rw [KP_nil, QL_normal]
          refine ⟨_, rfl, u83, ?_, ?_, ?_, ?_, ?_, S108⟩ <;> simp only [List.length_set, W0, Nat.reduceEqDiff, Nat.reduceLT, ↓reduceIte, hl, e0, e1, e5, e6]
    · rw [if_neg c89] at wr154
      try simp only [↓WD, W0, evalOp, Nat.reduceEqDiff, Nat.reduceLT, ↓reduceIte, reduceCtorEq, hl, e0, e1, e5, e6, e10]
      obtain rfl := Option.some.inj wr154
      rw [KP_nil, QL_exit]
      refine ⟨_, rfl, u83, rfl, ?_, ?_, S85⟩ <;> simp only [List.length_set, W0, Nat.reduceEqDiff, Nat.reduceLT, ↓reduceIte, hl, e0, e1, e5, e6, e10]
  · refine ⟨.val (.slice none 0 0), ?_, ?_, ?_, ?_, ?_, S77⟩ <;> simp only [List.length_set, W0, Nat.reduceEqDiff, Nat.reduceLT, ↓reduceIte, hl, e0, e1, e5, e6]
  · rintro x envr154 h156 ⟨u155, rfl, hl, e5, S157⟩
    try simp only [↓WD, W0, evalOp, Nat.reduceEqDiff, Nat.reduceLT, ↓reduceIte, reduceCtorEq, hl, e5]
    rw [AW_region]
    refine AE_joinR (fun e h' => h156 = h' ∧ e.length = 38 ∧ e.getD 4 .undef = u155) (by
      simp only [↓WE, WA, WL, aop, ofValue, ofCell, isConst, abin, acall1, abuiltin, aun, AV.cells, AV.one, Nat.reduceAdd, Int.reduceLT, Int.reduceLE, ↓WD, W0, evalOp, Nat.reduceEqDiff, Nat.reduceLT, ↓reduceIte, reduceCtorEq, hl, e5]
      refine ⟨rfl, ?_, ?_⟩ <;> simp only [List.length_set, W0, Nat.reduceEqDiff, Nat.reduceLT, ↓reduceIte, hl, e5]) ?_
    rintro envg158 _ ⟨rfl, hl, e4⟩
    try simp only [↓WD, W0, evalOp, Nat.reduceEqDiff, Nat.reduceLT, ↓reduceIte, reduceCtorEq, hl, e4]
    refine KP_ret (vs := [u155]) (by simp only [aresults, aresult, gs, List.length_set, Nat.reduceEqDiff, Nat.reduceLT, ↓reduceIte, hl, e4]) ?_
    obtain rfl := Option.some.inj hF
    exact ⟨u155, rfl, S157⟩
theorem W_ref23_Texts {K : PureK} (n55 : K 55 = none) (m : Nat) (hm : NF + 1 ≤ m) (h : AH) (ua : AV) (a : List (List UInt8)) (hua : RO 1 ua h (a.map cellS)) (ub : AV) (b : List (List UInt8)) (hub : RO 1 ub h (b.map cellS)) {r : Bool} (hF : F_ref23_Texts a b = some r) :
    AR (acall Try.prog (hooksOf K) (drawnOf Try.prog (tabOf K)) m 55 [ua, ub] h) (fun v h' => v = .bool r ∧ Sep h [] h' []) := by
  obtain ⟨m, rfl⟩ : ∃ k, m = k + 1 := ⟨m - 1, by omega⟩
  refine AR_call (hooksOf_none n55) Try.func55 rfl _ _ fun env hl he => ?_
  have e0 := he 0
  have e1 := he 1
  simp only [List.getD_cons_zero, List.getD_cons_succ] at e0 e1
  simp only [Try.f55] at hl ⊢
  simp only [List.length_cons, List.length_nil, Nat.reduceAdd, Nat.reduceSub] at hl
  clear he
  have S0 : Sep h [] h [] := Sep.nil h
  rw [F_ref23_Texts] at hF
  try simp only [↓WD, W0, evalOp, Nat.reduceEqDiff, Nat.reduceLT, ↓reduceIte, reduceCtorEq, hl, e0, e1]
  rw [AW_region]
  refine AE_joinR (fun e h' => h = h' ∧ e.length = 26 ∧ e.getD 0 .undef = ua ∧ e.getD 1 .undef = ub) (by
    simp only [↓WE, WA, WL, aop, ofValue, ofCell, isConst, abin, acall1, abuiltin, aun, AV.cells, AV.one, Nat.reduceAdd, Int.reduceLT, Int.reduceLE, ↓WD, W0, evalOp, Nat.reduceEqDiff, Nat.reduceLT, ↓reduceIte, reduceCtorEq, hl, e0, e1]
    refine ⟨rfl, ?_, ?_, ?_⟩ <;> simp only [List.length_set, W0, Nat.reduceEqDiff, Nat.reduceLT, ↓reduceIte, hl, e0, e1]) ?_
  rintro envg1 _ ⟨rfl, hl, e0, e1⟩
  try simp only [↓WD, W0, evalOp, Nat.reduceEqDiff, Nat.reduceLT, ↓reduceIte, reduceCtorEq, hl, e0, e1]
  rw [AW_region]
  have ol2 := RO.len (P := Try.prog) sl_51 (S0.ro hua)
  rw [List.length_map] at ol2
  have ol3 := RO.len (P := Try.prog) sl_51 (S0.ro hub)
  rw [List.length_map] at ol3
  refine AE_joinR (fun e h' => h = h' ∧ e.length = 26 ∧ e.getD 0 .undef = ua ∧ e.getD 1 .undef = ub ∧ e.getD 10 .undef = .bool ((a.length : Int) != (b.length : Int))) (by
    simp only [↓WE, WA, WL, aop, ofValue, ofCell, isConst, abin, acall1, abuiltin, aun, AV.cells, AV.one, Nat.reduceAdd, Int.reduceLT, Int.reduceLE, ↓WD, W0, evalOp, Nat.reduceEqDiff, Nat.reduceLT, ↓reduceIte, reduceCtorEq, hl, e0, e1, ol2, ol3]
    refine ⟨rfl, ?_, ?_, ?_, ?_⟩ <;> simp only [List.length_set, W0, Nat.reduceEqDiff, Nat.reduceLT, ↓reduceIte, hl, e0, e1]) ?_
  rintro envg4 _ ⟨rfl, hl, e0, e1, e10⟩
  try simp only [↓WD, W0, evalOp, Nat.reduceEqDiff, Nat.reduceLT, ↓reduceIte, reduceCtorEq, hl, e0, e1, e10]
  refine CondK_boo (fun c7 => ?_) (fun c7 => ?_)
  · rw [if_pos c7] at hF
    try simp only [↓WD, W0, evalOp, Nat.reduceEqDiff, Nat.reduceLT, ↓reduceIte, reduceCtorEq, hl, e0, e1, e10]
    rw [AW_region]
    refine AE_joinR (fun e h' => h = h' ∧ e.length = 26 ∧ e.getD 4 .undef = .bool false) (by
      simp only [↓WE, WA, WL, aop, ofValue, ofCell, isConst, abin, acall1, abuiltin, aun, AV.cells, AV.one, Nat.reduceAdd, Int.reduceLT, Int.reduceLE, ↓WD, W0, evalOp, Nat.reduceEqDiff, Nat.reduceLT, ↓reduceIte, reduceCtorEq, hl, e0, e1, e10]
      refine ⟨rfl, ?_, ?_⟩ <;> simp only [List.length_set, W0, Nat.reduceEqDiff, Nat.reduceLT, ↓reduceIte, hl, e0, e1, e10]) ?_
    rintro envg8 _ ⟨rfl, hl, e4⟩
    try simp only [↓WD, W0, evalOp, Nat.reduceEqDiff, Nat.reduceLT, ↓reduceIte, reduceCtorEq, hl, e4]
    refine KP_ret (vs := [.bool false]) (by simp only [aresults, aresult, gs, List.length_set, Nat.reduceEqDiff, Nat.reduceLT, ↓reduceIte, hl, e4]) ?_
    obtain rfl := Option.some.inj hF
    exact ⟨rfl, S0⟩
  · rw [if_neg (nf c7)] at hF
    try simp only [↓WD, W0, evalOp, Nat.reduceEqDiff, Nat.reduceLT, ↓reduceIte, reduceCtorEq, hl, e0, e1, e10]
    rw [AW_region]
    refine AE_joinR (fun e h' => h = h' ∧ e.length = 26 ∧ e.getD 0 .undef = ua ∧ e.getD 1 .undef = ub ∧ e.getD 5 .undef = .int .i64 0) (by
      simp only [↓WE, WA, WL, aop, ofValue, ofCell, isConst, abin, acall1, abuiltin, aun, AV.cells, AV.one, Nat.reduceAdd, Int.reduceLT, Int.reduceLE, ↓WD, W0, evalOp, Nat.reduceEqDiff, Nat.reduceLT, ↓reduceIte, reduceCtorEq, hl, e0, e1, e10]
      refine ⟨rfl, ?_, ?_, ?_, ?_⟩ <;> simp only [List.length_set, W0, Nat.reduceEqDiff, Nat.reduceLT, ↓reduceIte, hl, e0, e1, e10]) ?_
    rintro envg9 _ ⟨rfl, hl, e0, e1, e5⟩
    try simp only [↓WD, W0, evalOp, Nat.reduceEqDiff, Nat.reduceLT, ↓reduceIte, reduceCtorEq, hl, e0, e1, e5]
    obtain ⟨r58, qr58, hF⟩ := obind hF
    refine AW_lift (L_ref23_Texts_1 a b) (fun s e h' => e.length = 26 ∧ e.getD 0 .undef = ua ∧ e.getD 1 .undef = ub ∧ e.getD 5 .undef = .int .i64 s ∧ Sep h [] h' []) (fun r58 x e h' => (∃ (t59 : Unit), r58 = (.inl t59) ∧ x = .exit 0 ∧ e.length = 26 ∧ Sep h [] h' []) ∨ (∃ (t62 : Unit), r58 = (.inr t62) ∧ x = .ret ∧ e.length = 26 ∧ e.getD 4 .undef = .bool false ∧ Sep h [] h' [])) qr58 (by omega) ?_ ?_ ?_
    · rintro s envr58 h34 or58 ⟨hl, e0, e1, e5, S35⟩ wr58
      rw [L_ref23_Texts_1] at wr58
      try simp only [↓WD, W0, evalOp, Nat.reduceEqDiff, Nat.reduceLT, ↓reduceIte, reduceCtorEq, hl, e0, e1, e5]
      rw [AW_region]
      have ol36 := RO.len (P := Try.prog) sl_51 (S35.ro hua)
      rw [List.length_map] at ol36
      refine AE_joinR (fun e h' => h34 = h' ∧ e.length = 26 ∧ e.getD 0 .undef = ua ∧ e.getD 1 .undef = ub ∧ e.getD 5 .undef = .int .i64 s ∧ e.getD 14 .undef = .bool (decide (s < (a.length : Int)))) (by
        simp only [↓WE, WA, WL, aop, ofValue, ofCell, isConst, abin, acall1, abuiltin, aun, AV.cells, AV.one, Nat.reduceAdd, Int.reduceLT, Int.reduceLE, ↓WD, W0, evalOp, Nat.reduceEqDiff, Nat.reduceLT, ↓reduceIte, reduceCtorEq, hl, e0, e1, e5, ol36]
        refine ⟨rfl, ?_, ?_, ?_, ?_, ?_⟩ <;> simp only [List.length_set, W0, Nat.reduceEqDiff, Nat.reduceLT, ↓reduceIte, hl, e0, e1, e5]) ?_
      rintro envg37 _ ⟨rfl, hl, e0, e1, e5, e14⟩
      try simp only [↓WD, W0, evalOp, Nat.reduceEqDiff, Nat.reduceLT, ↓reduceIte, reduceCtorEq, hl, e0, e1, e5, e14]
      refine CondK_dec (fun c39 => ?_) (fun c39 => ?_)
      · rw [if_pos c39] at wr58
        try simp only [↓WD, W0, evalOp, Nat.reduceEqDiff, Nat.reduceLT, ↓reduceIte, reduceCtorEq, hl, e0, e1, e5, e14]
        rw [AW_drawn, AE_drawnK Ksub.nil (by kernel_rfl)]
        obtain ⟨x40, qx40, wr58⟩ := obind wr58
        obtain ⟨i41, off42, oi43, hp44⟩ := RO.addr (P := Try.prog) sl_51 (S35.ro hua) qx40
        have ol45 := RO.ld (P := Try.prog) (S35.ro hua) hp44 qx40 (t := 9) (o := 0) (v := .str x40) (by omega) (by simp only [apart, ag_9, sz_9]; rfl)
        simp only [Nat.add_zero] at ol45
        obtain ⟨x46, qx46, wr58⟩ := obind wr58
        obtain ⟨i47, off48, oi49, hp50⟩ := RO.addr (P := Try.prog) sl_51 (S35.ro hub) qx46
        have ol51 := RO.ld (P := Try.prog) (S35.ro hub) hp50 qx46 (t := 9) (o := 0) (v := .str x46) (by omega) (by simp only [apart, ag_9, sz_9]; rfl)
        simp only [Nat.add_zero] at ol51
        refine AE_joinR (fun e h' => h34 = h' ∧ e.length = 26 ∧ e.getD 0 .undef = ua ∧ e.getD 1 .undef = ub ∧ e.getD 5 .undef = .int .i64 s ∧ e.getD 25 .undef = .bool (!(x40 == x46))) (by
          simp only [↓WE, WA, WL, aop, ofValue, ofCell, isConst, abin, acall1, abuiltin, aun, AV.cells, AV.one, Nat.reduceAdd, Int.reduceLT, Int.reduceLE, ↓WD, W0, evalOp, Nat.reduceEqDiff, Nat.reduceLT, ↓reduceIte, reduceCtorEq, hl, e0, e1, e5, e14, oi43, ol45, oi49, ol51]
          refine ⟨rfl, ?_, ?_, ?_, ?_, ?_⟩ <;> simp only [List.length_set, W0, Nat.reduceEqDiff, Nat.reduceLT, ↓reduceIte, hl, e0, e1, e5, e14]) ?_
        rintro envg52 _ ⟨rfl, hl, e0, e1, e5, e25⟩
        try simp only [↓WD, W0, evalOp, Nat.reduceEqDiff, Nat.reduceLT, ↓reduceIte, reduceCtorEq, hl, e0, e1, e5, e25]
        refine CondK_boo (fun c55 => ?_) (fun c55 => ?_)
        · rw [if_pos c55] at wr58
          try simp only [↓WD, W0, evalOp, Nat.reduceEqDiff, Nat.reduceLT, ↓reduceIte, reduceCtorEq, hl, e0, e1, e5, e25]
          rw [AW_region]
          refine AE_joinR (fun e h' => h34 = h' ∧ e.length = 26 ∧ e.getD 4 .undef = .bool false) (by
            simp only [↓WE, WA, WL, aop, ofValue, ofCell, isConst, abin, acall1, abuiltin, aun, AV.cells, AV.one, Nat.reduceAdd, Int.reduceLT, Int.reduceLE, ↓WD, W0, evalOp, Nat.reduceEqDiff, Nat.reduceLT, ↓reduceIte, reduceCtorEq, hl, e0, e1, e5, e25]
            refine ⟨rfl, ?_, ?_⟩ <;> simp only [List.length_set, W0, Nat.reduceEqDiff, Nat.reduceLT, ↓reduceIte, hl, e0, e1, e5, e25]) ?_
          rintro envg56 _ ⟨rfl, hl, e4⟩
          try simp only [↓WD, W0, evalOp, Nat.reduceEqDiff, Nat.reduceLT, ↓reduceIte, reduceCtorEq, hl, e4]
          obtain rfl := Option.some.inj wr58
          rw [KP_nil, QL_ret]
          refine ⟨_, rfl, .inr (⟨_, rfl, rfl, ?_, ?_, S35⟩)⟩ <;> simp only [List.length_set, W0, Nat.reduceEqDiff, Nat.reduceLT, ↓reduceIte, hl, e4]
        · rw [if_neg (nf c55)] at wr58
          try simp only [↓WD, W0, evalOp, Nat.reduceEqDiff, Nat.reduceLT, ↓reduceIte, reduceCtorEq, hl, e0, e1, e5, e25]
          rw [AW_region]
          refine AE_joinR (fun e h' => h34 = h' ∧ e.length = 26 ∧ e.getD 0 .undef = ua ∧ e.getD 1 .undef = ub ∧ e.getD 5 .undef = .int .i64 (IntKind.i64.wrap (s + 1))) (by
            simp only [↓WE, WA, WL, aop, ofValue, ofCell, isConst, abin, acall1, abuiltin, aun, AV.cells, AV.one, Nat.reduceAdd, Int.reduceLT, Int.reduceLE, ↓WD, W0, evalOp, Nat.reduceEqDiff, Nat.reduceLT, ↓reduceIte, reduceCtorEq, hl, e0, e1, e5, e25]
            refine ⟨rfl, ?_, ?_, ?_, ?_⟩ <;> simp only [List.length_set, W0, Nat.reduceEqDiff, Nat.reduceLT, ↓reduceIte, hl, e0, e1, e5, e25]) ?_
          rintro envg57 _ ⟨rfl, hl, e0, e1, e5⟩
          try simp only [↓WD, W0, evalOp, Nat.reduceEqDiff, Nat.reduceLT, ↓reduceIte, reduceCtorEq, hl, e0, e1, e5]
          obtain rfl := Option.some.inj wr58
          rw [KP_nil, QL_normal]
          refine ⟨_, rfl, ?_, ?_, ?_, ?_, S35⟩ <;> simp only [List.length_set, W0, Nat.reduceEqDiff, Nat.reduceLT, ↓reduceIte, hl, e0, e1, e5]
      · rw [if_neg c39] at wr58
        try simp only [↓WD, W0, evalOp, Nat.reduceEqDiff, Nat.reduceLT, ↓reduceIte, reduceCtorEq, hl, e0, e1, e5, e14]
        obtain rfl := Option.some.inj wr58
        rw [KP_nil, QL_exit]
        exact ⟨_, rfl, .inl ⟨_, rfl, rfl, (by simp only [List.length_set, hl]), S35⟩⟩
    · refine ⟨?_, ?_, ?_, ?_, S0⟩ <;> simp only [List.length_set, W0, Nat.reduceEqDiff, Nat.reduceLT, ↓reduceIte, hl, e0, e1, e5]
    · intro x envr58 h60 hk
      rcases hk with ⟨t59, rfl, rfl, hl, S61⟩ | ⟨t62, rfl, rfl, hl, e4, S64⟩
      · skip
        rw [sumK_inl] at hF
        try simp only [↓WD, W0, evalOp, Nat.reduceEqDiff, Nat.reduceLT, ↓reduceIte, reduceCtorEq, hl]
        rw [AW_region]
        refine AE_joinR (fun e h' => h60 = h' ∧ e.length = 26 ∧ e.getD 4 .undef = .bool true) (by
          simp only [↓WE, WA, WL, aop, ofValue, ofCell, isConst, abin, acall1, abuiltin, aun, AV.cells, AV.one, Nat.reduceAdd, Int.reduceLT, Int.reduceLE, ↓WD, W0, evalOp, Nat.reduceEqDiff, Nat.reduceLT, ↓reduceIte, reduceCtorEq, hl]
          refine ⟨rfl, ?_, ?_⟩ <;> simp only [List.length_set, W0, Nat.reduceEqDiff, Nat.reduceLT, ↓reduceIte, hl]) ?_
        rintro envg65 _ ⟨rfl, hl, e4⟩
        try simp only [↓WD, W0, evalOp, Nat.reduceEqDiff, Nat.reduceLT, ↓reduceIte, reduceCtorEq, hl, e4]
        refine KP_ret (vs := [.bool true]) (by simp only [aresults, aresult, gs, List.length_set, Nat.reduceEqDiff, Nat.reduceLT, ↓reduceIte, hl, e4]) ?_
        obtain rfl := Option.some.inj hF
        exact ⟨rfl, S61⟩
      · skip
        rw [sumK_inr] at hF
        try simp only [↓WD, W0, evalOp, Nat.reduceEqDiff, Nat.reduceLT, ↓reduceIte, reduceCtorEq, hl, e4]
        refine KP_ret (vs := [.bool false]) (by simp only [aresults, aresult, gs, List.length_set, Nat.reduceEqDiff, Nat.reduceLT, ↓reduceIte, hl, e4]) ?_
        obtain rfl := Option.some.inj hF
        exact ⟨rfl, S64⟩
end Go.Proofs.YtobhmahlenjheaaM
