/- The abstract machine computes what the plain functions say: printed by lift.py. -/
import Derived.Test.YtobhmahlenjheaaDGT
import Derived.KernelRfl
set_option linter.unusedSimpArgs false
set_option linter.unusedVariables false
namespace Go.Proofs.YtobhmahlenjheaaM
open Go Go.RowKit
set_option maxHeartbeats 4000000
set_option maxRecDepth 100000
theorem W_ref04_primes {K : PureK} (n97 : K 97 = none) (m : Nat) (hm : NF + 1 ≤ m) (h : AH) (n_ : Int) {r : (List Int)} (hF : F_ref04_primes n_ = some r) :
    AR (acall Try.prog (hooksOf K) (drawnOf Try.prog (tabOf K)) m 97 [.int .i64 n_] h) (fun v h' => ∃ w0 : AV, v = w0 ∧ Sep h [] h' [.row w0 24 1 (r.map (cellI .u64))]) := by
  obtain ⟨m, rfl⟩ : ∃ k, m = k + 1 := ⟨m - 1, by omega⟩
  refine AR_call (hooksOf_none n97) Try.func97 rfl _ _ fun env hl he => ?_
  have e0 := he 0
  simp only [List.getD_cons_zero, List.getD_cons_succ] at e0
  simp only [Try.f97] at hl ⊢
  simp only [List.length_cons, List.length_nil, Nat.reduceAdd, Nat.reduceSub] at hl
  clear he
  have S0 : Sep h [] h [] := Sep.nil h
  rw [F_ref04_primes] at hF
  try simp only [↓WD, W0, evalOp, Nat.reduceEqDiff, Nat.reduceLT, ↓reduceIte, reduceCtorEq, hl, e0]
  rw [AW_region]
  refine AE_joinR (fun e h' => h = h' ∧ e.length = 32 ∧ e.getD 0 .undef = .int .i64 n_) (by
    simp only [↓WE, WA, WL, aop, ofValue, ofCell, isConst, abin, acall1, abuiltin, aun, AV.cells, AV.one, Nat.reduceAdd, Int.reduceLT, Int.reduceLE, ↓WD, W0, evalOp, Nat.reduceEqDiff, Nat.reduceLT, ↓reduceIte, reduceCtorEq, hl, e0]
    refine ⟨rfl, ?_, ?_⟩ <;> simp only [List.length_set, W0, Nat.reduceEqDiff, Nat.reduceLT, ↓reduceIte, hl, e0]) ?_
  rintro envg1 _ ⟨rfl, hl, e0⟩
  try simp only [↓WD, W0, evalOp, Nat.reduceEqDiff, Nat.reduceLT, ↓reduceIte, reduceCtorEq, hl, e0]
  rw [AW_region]
  refine AE_joinR (fun e h' => h = h' ∧ e.length = 32 ∧ e.getD 0 .undef = .int .i64 n_ ∧ e.getD 3 .undef = .val (.slice none 0 0)) (by
    simp only [↓WE, WA, WL, aop, ofValue, ofCell, isConst, abin, acall1, abuiltin, aun, AV.cells, AV.one, Nat.reduceAdd, Int.reduceLT, Int.reduceLE, ↓WD, W0, evalOp, Nat.reduceEqDiff, Nat.reduceLT, ↓reduceIte, reduceCtorEq, hl, e0]
    refine ⟨rfl, ?_, ?_, ?_⟩ <;> simp only [List.length_set, W0, Nat.reduceEqDiff, Nat.reduceLT, ↓reduceIte, hl, e0]) ?_
  rintro envg2 _ ⟨rfl, hl, e0, e3⟩
  try simp only [↓WD, W0, evalOp, Nat.reduceEqDiff, Nat.reduceLT, ↓reduceIte, reduceCtorEq, hl, e0, e3]
  rw [AW_region]
  refine AE_joinR (fun e h' => h = h' ∧ e.length = 32 ∧ e.getD 0 .undef = .int .i64 n_ ∧ e.getD 3 .undef = .val (.slice none 0 0) ∧ e.getD 4 .undef = .int .u64 2) (by
    simp only [↓WE, WA, WL, aop, ofValue, ofCell, isConst, abin, acall1, abuiltin, aun, AV.cells, AV.one, Nat.reduceAdd, Int.reduceLT, Int.reduceLE, ↓WD, W0, evalOp, Nat.reduceEqDiff, Nat.reduceLT, ↓reduceIte, reduceCtorEq, hl, e0, e3]
    refine ⟨rfl, ?_, ?_, ?_, ?_⟩ <;> simp only [List.length_set, W0, Nat.reduceEqDiff, Nat.reduceLT, ↓reduceIte, hl, e0, e3]) ?_
  rintro envg3 _ ⟨rfl, hl, e0, e3, e4⟩
  try simp only [↓WD, W0, evalOp, Nat.reduceEqDiff, Nat.reduceLT, ↓reduceIte, reduceCtorEq, hl, e0, e3, e4]
  have S91 : Sep h [] h [.row (.val (.slice none 0 0)) 24 1 (([] : List Int).map (cellI .u64))] := S0.nilrow 24 1
  obtain ⟨r182, qr182, hF⟩ := obind hF
  refine AW_lift (L_ref04_primes_1 n_) (fun s e h' => ∃ (u97 : AV), e.length = 32 ∧ e.getD 0 .undef = .int .i64 n_ ∧ e.getD 3 .undef = u97 ∧ e.getD 4 .undef = .int .u64 s.2 ∧ Sep h [] h' [.row u97 24 1 (s.1.map (cellI .u64))]) (fun r182 x e h' => ∃ (u183 : AV), x = .exit 0 ∧ e.length = 32 ∧ e.getD 3 .undef = u183 ∧ Sep h [] h' [.row u183 24 1 (r182.map (cellI .u64))]) qr182 (by omega) ?_ ?_ ?_
  · rintro s envr182 h98 or182 ⟨u97, hl, e0, e3, e4, S99⟩ wr182
    rw [L_ref04_primes_1] at wr182
    try simp only [↓WD, W0, evalOp, Nat.reduceEqDiff, Nat.reduceLT, ↓reduceIte, reduceCtorEq, hl, e0, e3, e4]
    rw [AW_region]
    have ol100 := RO.len (P := Try.prog) sl_141 (S99.row_ro (i := 0) rfl)
    rw [List.length_map] at ol100
    refine AE_joinR (fun e h' => h98 = h' ∧ e.length = 32 ∧ e.getD 0 .undef = .int .i64 n_ ∧ e.getD 3 .undef = u97 ∧ e.getD 4 .undef = .int .u64 s.2 ∧ e.getD 10 .undef = .bool (decide ((s.1.length : Int) < n_))) (by
      simp only [↓WE, WA, WL, aop, ofValue, ofCell, isConst, abin, acall1, abuiltin, aun, AV.cells, AV.one, Nat.reduceAdd, Int.reduceLT, Int.reduceLE, ↓WD, W0, evalOp, Nat.reduceEqDiff, Nat.reduceLT, ↓reduceIte, reduceCtorEq, hl, e0, e3, e4, ol100]
      refine ⟨rfl, ?_, ?_, ?_, ?_, ?_⟩ <;> simp only [List.length_set, W0, Nat.reduceEqDiff, Nat.reduceLT, ↓reduceIte, hl, e0, e3, e4]) ?_
    rintro envg101 _ ⟨rfl, hl, e0, e3, e4, e10⟩
    try simp only [↓WD, W0, evalOp, Nat.reduceEqDiff, Nat.reduceLT, ↓reduceIte, reduceCtorEq, hl, e0, e3, e4, e10]
    refine CondK_dec (fun c103 => ?_) (fun c103 => ?_)
    · rw [if_pos c103] at wr182
      try simp only [↓WD, W0, evalOp, Nat.reduceEqDiff, Nat.reduceLT, ↓reduceIte, reduceCtorEq, hl, e0, e3, e4, e10]
      rw [AW_region]
      refine AE_joinR (fun e h' => h98 = h' ∧ e.length = 32 ∧ e.getD 0 .undef = .int .i64 n_ ∧ e.getD 3 .undef = u97 ∧ e.getD 4 .undef = .int .u64 s.2 ∧ e.getD 5 .undef = .bool true) (by
        simp only [↓WE, WA, WL, aop, ofValue, ofCell, isConst, abin, acall1, abuiltin, aun, AV.cells, AV.one, Nat.reduceAdd, Int.reduceLT, Int.reduceLE, ↓WD, W0, evalOp, Nat.reduceEqDiff, Nat.reduceLT, ↓reduceIte, reduceCtorEq, hl, e0, e3, e4, e10]
        refine ⟨rfl, ?_, ?_, ?_, ?_, ?_⟩ <;> simp only [List.length_set, W0, Nat.reduceEqDiff, Nat.reduceLT, ↓reduceIte, hl, e0, e3, e4, e10]) ?_
      rintro envg104 _ ⟨rfl, hl, e0, e3, e4, e5⟩
      try simp only [↓WD, W0, evalOp, Nat.reduceEqDiff, Nat.reduceLT, ↓reduceIte, reduceCtorEq, hl, e0, e3, e4, e5]
      rw [AW_region]
      refine AE_joinR (fun e h' => h98 = h' ∧ e.length = 32 ∧ e.getD 0 .undef = .int .i64 n_ ∧ e.getD 3 .undef = u97 ∧ e.getD 4 .undef = .int .u64 s.2 ∧ e.getD 5 .undef = .bool true ∧ e.getD 6 .undef = .int .i64 0) (by
        simp only [↓WE, WA, WL, aop, ofValue, ofCell, isConst, abin, acall1, abuiltin, aun, AV.cells, AV.one, Nat.reduceAdd, Int.reduceLT, Int.reduceLE, ↓WD, W0, evalOp, Nat.reduceEqDiff, Nat.reduceLT, ↓reduceIte, reduceCtorEq, hl, e0, e3, e4, e5]
        refine ⟨rfl, ?_, ?_, ?_, ?_, ?_, ?_⟩ <;> simp only [List.length_set, W0, Nat.reduceEqDiff, Nat.reduceLT, ↓reduceIte, hl, e0, e3, e4, e5]) ?_
      rintro envg105 _ ⟨rfl, hl, e0, e3, e4, e5, e6⟩
      try simp only [↓WD, W0, evalOp, Nat.reduceEqDiff, Nat.reduceLT, ↓reduceIte, reduceCtorEq, hl, e0, e3, e4, e5, e6]
      obtain ⟨r146, qr146, wr182⟩ := obind wr182
      refine AW_lift (L_ref04_primes_2) (fun s e h' => e.length = 32 ∧ e.getD 0 .undef = .int .i64 n_ ∧ e.getD 3 .undef = u97 ∧ e.getD 4 .undef = .int .u64 s.2.1 ∧ e.getD 5 .undef = .bool s.2.2.1 ∧ e.getD 6 .undef = .int .i64 s.2.2.2 ∧ Sep h [] h' [.row u97 24 1 (s.1.map (cellI .u64))]) (fun r146 x e h' => x = .exit 2 ∧ e.length = 32 ∧ e.getD 0 .undef = .int .i64 n_ ∧ e.getD 3 .undef = u97 ∧ e.getD 4 .undef = .int .u64 r146.2.1 ∧ e.getD 5 .undef = .bool r146.2.2 ∧ Sep h [] h' [.row u97 24 1 (r146.1.map (cellI .u64))]) qr146 (by omega) ?_ ?_ ?_
      · rintro s envr146 h126 or146 ⟨hl, e0, e3, e4, e5, e6, S127⟩ wr146
        rw [L_ref04_primes_2] at wr146
        try simp only [↓WD, W0, evalOp, Nat.reduceEqDiff, Nat.reduceLT, ↓reduceIte, reduceCtorEq, hl, e0, e3, e4, e5, e6]
        rw [AW_region]
        have ol128 := RO.len (P := Try.prog) sl_141 (S127.row_ro (i := 0) rfl)
        rw [List.length_map] at ol128
        refine AE_joinR (fun e h' => h126 = h' ∧ e.length = 32 ∧ e.getD 0 .undef = .int .i64 n_ ∧ e.getD 3 .undef = u97 ∧ e.getD 4 .undef = .int .u64 s.2.1 ∧ e.getD 5 .undef = .bool s.2.2.1 ∧ e.getD 6 .undef = .int .i64 s.2.2.2 ∧ e.getD 16 .undef = .bool (decide (s.2.2.2 < (s.1.length : Int)))) (by
          simp only [↓WE, WA, WL, aop, ofValue, ofCell, isConst, abin, acall1, abuiltin, aun, AV.cells, AV.one, Nat.reduceAdd, Int.reduceLT, Int.reduceLE, ↓WD, W0, evalOp, Nat.reduceEqDiff, Nat.reduceLT, ↓reduceIte, reduceCtorEq, hl, e0, e3, e4, e5, e6, ol128]
          refine ⟨rfl, ?_, ?_, ?_, ?_, ?_, ?_, ?_⟩ <;> simp only [List.length_set, W0, Nat.reduceEqDiff, Nat.reduceLT, ↓reduceIte, hl, e0, e3, e4, e5, e6]) ?_
        rintro envg129 _ ⟨rfl, hl, e0, e3, e4, e5, e6, e16⟩
        try simp only [↓WD, W0, evalOp, Nat.reduceEqDiff, Nat.reduceLT, ↓reduceIte, reduceCtorEq, hl, e0, e3, e4, e5, e6, e16]
        refine CondK_dec (fun c131 => ?_) (fun c131 => ?_)
        · rw [if_pos c131] at wr146
          try simp only [↓WD, W0, evalOp, Nat.reduceEqDiff, Nat.reduceLT, ↓reduceIte, reduceCtorEq, hl, e0, e3, e4, e5, e6, e16]
          rw [AW_region]
          obtain ⟨x132, qx132, wr146⟩ := obind wr146
          obtain ⟨i133, off134, oi135, hp136⟩ := RO.addr (P := Try.prog) sl_141 (S127.row_ro (i := 0) rfl) qx132
          have ol137 := RO.ld (P := Try.prog) (S127.row_ro (i := 0) rfl) hp136 qx132 (t := 24) (o := 0) (v := .int .u64 x132) (by omega) (by simp only [apart, ag_24, sz_24]; rfl)
          simp only [Nat.add_zero] at ol137
          obtain ⟨y138, qy138, wr146⟩ := obind wr146
          have oy138 := rem_int (k := .u64) qy138
          refine AE_joinR (fun e h' => h126 = h' ∧ e.length = 32 ∧ e.getD 0 .undef = .int .i64 n_ ∧ e.getD 3 .undef = u97 ∧ e.getD 4 .undef = .int .u64 s.2.1 ∧ e.getD 5 .undef = .bool s.2.2.1 ∧ e.getD 6 .undef = .int .i64 s.2.2.2 ∧ e.getD 25 .undef = .bool (y138 == 0)) (by
            simp only [↓WE, WA, WL, aop, ofValue, ofCell, isConst, abin, acall1, abuiltin, aun, AV.cells, AV.one, Nat.reduceAdd, Int.reduceLT, Int.reduceLE, ↓WD, W0, evalOp, Nat.reduceEqDiff, Nat.reduceLT, ↓reduceIte, reduceCtorEq, hl, e0, e3, e4, e5, e6, e16, oi135, ol137, oy138]
            refine ⟨rfl, ?_, ?_, ?_, ?_, ?_, ?_, ?_⟩ <;> simp only [List.length_set, W0, Nat.reduceEqDiff, Nat.reduceLT, ↓reduceIte, hl, e0, e3, e4, e5, e6, e16]) ?_
          rintro envg139 _ ⟨rfl, hl, e0, e3, e4, e5, e6, e25⟩
          try simp only [↓WD, W0, evalOp, Nat.reduceEqDiff, Nat.reduceLT, ↓reduceIte, reduceCtorEq, hl, e0, e3, e4, e5, e6, e25]
          refine CondK_boo (fun c142 => ?_) (fun c142 => ?_)
          · rw [if_pos c142] at wr146
            try simp only [↓WD, W0, evalOp, Nat.reduceEqDiff, Nat.reduceLT, ↓reduceIte, reduceCtorEq, hl, e0, e3, e4, e5, e6, e25]
            rw [AW_region]
            refine AE_joinR (fun e h' => h126 = h' ∧ e.length = 32 ∧ e.getD 0 .undef = .int .i64 n_ ∧ e.getD 3 .undef = u97 ∧ e.getD 4 .undef = .int .u64 s.2.1 ∧ e.getD 5 .undef = .bool false ∧ e.getD 6 .undef = .int .i64 s.2.2.2) (by
              simp only [↓WE, WA, WL, aop, ofValue, ofCell, isConst, abin, acall1, abuiltin, aun, AV.cells, AV.one, Nat.reduceAdd, Int.reduceLT, Int.reduceLE, ↓WD, W0, evalOp, Nat.reduceEqDiff, Nat.reduceLT, ↓reduceIte, reduceCtorEq, hl, e0, e3, e4, e5, e6, e25]
              refine ⟨rfl, ?_, ?_, ?_, ?_, ?_, ?_⟩ <;> simp only [List.length_set, W0, Nat.reduceEqDiff, Nat.reduceLT, ↓reduceIte, hl, e0, e3, e4, e5, e6, e25]) ?_
            rintro envg143 _ ⟨rfl, hl, e0, e3, e4, e5, e6⟩
            try simp only [↓WD, W0, evalOp, Nat.reduceEqDiff, Nat.reduceLT, ↓reduceIte, reduceCtorEq, hl, e0, e3, e4, e5, e6]
            rw [AW_region]
            refine AE_joinR (fun e h' => h126 = h' ∧ e.length = 32 ∧ e.getD 0 .undef = .int .i64 n_ ∧ e.getD 3 .undef = u97 ∧ e.getD 4 .undef = .int .u64 s.2.1 ∧ e.getD 5 .undef = .bool false ∧ e.getD 6 .undef = .int .i64 (IntKind.i64.wrap (s.2.2.2 + 1))) (by
              simp only [↓WE, WA, WL, aop, ofValue, ofCell, isConst, abin, acall1, abuiltin, aun, AV.cells, AV.one, Nat.reduceAdd, Int.reduceLT, Int.reduceLE, ↓WD, W0, evalOp, Nat.reduceEqDiff, Nat.reduceLT, ↓reduceIte, reduceCtorEq, hl, e0, e3, e4, e5, e6]
              refine ⟨rfl, ?_, ?_, ?_, ?_, ?_, ?_⟩ <;> simp only [List.length_set, W0, Nat.reduceEqDiff, Nat.reduceLT, ↓reduceIte, hl, e0, e3, e4, e5, e6]) ?_
            rintro envg144 _ ⟨rfl, hl, e0, e3, e4, e5, e6⟩
            try simp only [↓WD, W0, evalOp, Nat.reduceEqDiff, Nat.reduceLT, ↓reduceIte, reduceCtorEq, hl, e0, e3, e4, e5, e6]
            obtain rfl := Option.some.inj wr146
            rw [KP_nil, QL_normal]
            refine ⟨_, rfl, ?_, ?_, ?_, ?_, ?_, ?_, S127⟩ <;> simp only [List.length_set, W0, Nat.reduceEqDiff, Nat.reduceLT, ↓reduceIte, hl, e0, e3, e4, e5, e6]
          · rw [if_neg (nf c142)] at wr146
            try simp only [↓WD, W0, evalOp, Nat.reduceEqDiff, Nat.reduceLT, ↓reduceIte, reduceCtorEq, hl, e0, e3, e4, e5, e6, e25]
            rw [AW_region]
            refine AE_joinR (fun e h' => h126 = h' ∧ e.length = 32 ∧ e.getD 0 .undef = .int .i64 n_ ∧ e.getD 3 .undef = u97 ∧ e.getD 4 .undef = .int .u64 s.2.1 ∧ e.getD 5 .undef = .bool s.2.2.1 ∧ e.getD 6 .undef = .int .i64 (IntKind.i64.wrap (s.2.2.2 + 1))) (by
              simp only [↓WE, WA, WL, aop, ofValue, ofCell, isConst, abin, acall1, abuiltin, aun, AV.cells, AV.one, Nat.reduceAdd, Int.reduceLT, Int.reduceLE, ↓WD, W0, evalOp, Nat.reduceEqDiff, Nat.reduceLT, ↓reduceIte, reduceCtorEq, hl, e0, e3, e4, e5, e6, e25]
              refine ⟨rfl, ?_, ?_, ?_, ?_, ?_, ?_⟩ <;> simp only [List.length_set, W0, Nat.reduceEqDiff, Nat.reduceLT, ↓reduceIte, hl, e0, e3, e4, e5, e6, e25]) ?_
            rintro envg145 _ ⟨rfl, hl, e0, e3, e4, e5, e6⟩
            try simp only [↓WD, W0, evalOp, Nat.reduceEqDiff, Nat.reduceLT, ↓reduceIte, reduceCtorEq, hl, e0, e3, e4, e5, e6]
            obtain rfl := Option.some.inj wr146
            rw [KP_nil, QL_normal]
            refine ⟨_, rfl, ?_, ?_, ?_, ?_, ?_, ?_, S127⟩ <;> simp only [List.length_set, W0, Nat.reduceEqDiff, Nat.reduceLT, ↓reduceIte, hl, e0, e3, e4, e5, e6]
        · rw [if_neg c131] at wr146
          try simp only [↓WD, W0, evalOp, Nat.reduceEqDiff, Nat.reduceLT, ↓reduceIte, reduceCtorEq, hl, e0, e3, e4, e5, e6, e16]
          obtain rfl := Option.some.inj wr146
          rw [KP_nil, QL_exit]
          refine ⟨_, rfl, rfl, ?_, ?_, ?_, ?_, ?_, S127⟩ <;> simp only [List.length_set, W0, Nat.reduceEqDiff, Nat.reduceLT, ↓reduceIte, hl, e0, e3, e4, e5, e6, e16]
      · refine ⟨?_, ?_, ?_, ?_, ?_, ?_, S99⟩ <;> simp only [List.length_set, W0, Nat.reduceEqDiff, Nat.reduceLT, ↓reduceIte, hl, e0, e3, e4, e5, e6]
      · rintro x envr146 h147 ⟨rfl, hl, e0, e3, e4, e5, S148⟩
        try simp only [↓WD, W0, evalOp, Nat.reduceEqDiff, Nat.reduceLT, ↓reduceIte, reduceCtorEq, hl, e0, e3, e4, e5]
        rw [AW_region]
        refine AE_joinR (fun e h' => h147 = h' ∧ e.length = 32 ∧ e.getD 0 .undef = .int .i64 n_ ∧ e.getD 3 .undef = u97 ∧ e.getD 4 .undef = .int .u64 r146.2.1 ∧ e.getD 26 .undef = .bool r146.2.2) (by
          simp only [↓WE, WA, WL, aop, ofValue, ofCell, isConst, abin, acall1, abuiltin, aun, AV.cells, AV.one, Nat.reduceAdd, Int.reduceLT, Int.reduceLE, ↓WD, W0, evalOp, Nat.reduceEqDiff, Nat.reduceLT, ↓reduceIte, reduceCtorEq, hl, e0, e3, e4, e5]
          refine ⟨rfl, ?_, ?_, ?_, ?_, ?_⟩ <;> simp only [List.length_set, W0, Nat.reduceEqDiff, Nat.reduceLT, ↓reduceIte, hl, e0, e3, e4, e5]) ?_
        rintro envg149 _ ⟨rfl, hl, e0, e3, e4, e26⟩
        try simp only [↓WD, W0, evalOp, Nat.reduceEqDiff, Nat.reduceLT, ↓reduceIte, reduceCtorEq, hl, e0, e3, e4, e26]
        refine CondK_boo (fun c164 => ?_) (fun c164 => ?_)
        · rw [if_pos c164] at wr182
          try simp only [↓WD, W0, evalOp, Nat.reduceEqDiff, Nat.reduceLT, ↓reduceIte, reduceCtorEq, hl, e0, e3, e4, e26]
          rw [AW_region]
          obtain ⟨u165, h166, ob167, S168⟩ := Sep.build (P := Try.prog) sl_141 S148 [.int .u64 r146.2.1] (([r146.2.1] : List Int).map (cellI .u64)) rfl (by simp [cellI]) (by simp)
          have ob167 : abuildSlice Try.prog 141 1 [(0, .int .u64 r146.2.1)] h147 = some (u165, h166) := ob167
          have S170 : Sep h [] h166 [.row u97 24 1 (r146.1.map (cellI .u64)), .row u165 24 1 (([r146.2.1] : List Int).map (cellI .u64))] := S168
          obtain ⟨zs171, qzs171, wr182⟩ := obind wr182
          obtain ⟨u172, h173, op174, S175⟩ := Sep.append (P := Try.prog) (t' := 141) sl_141 (by rw [Try.underlying141]; rfl) S170 0 rfl (S170.row_ro (i := 1) rfl) (fun _ => rfl) qzs171
          have S176 : Sep h [] h173 [.row u172 24 1 (zs171.map (cellI .u64)), .row u165 24 1 (([r146.2.1] : List Int).map (cellI .u64))] := S175
          refine AE_joinR (fun e h' => h173 = h' ∧ e.length = 32 ∧ e.getD 0 .undef = .int .i64 n_ ∧ e.getD 3 .undef = u172 ∧ e.getD 4 .undef = .int .u64 r146.2.1) (by
            simp only [↓WE, WA, WL, aop, ofValue, ofCell, isConst, abin, acall1, abuiltin, aun, AV.cells, AV.one, Nat.reduceAdd, Int.reduceLT, Int.reduceLE, ↓WD, W0, evalOp, Nat.reduceEqDiff, Nat.reduceLT, ↓reduceIte, reduceCtorEq, hl, e0, e3, e4, e26, ob167, op174]
            refine ⟨rfl, ?_, ?_, ?_, ?_⟩ <;> simp only [List.length_set, W0, Nat.reduceEqDiff, Nat.reduceLT, ↓reduceIte, hl, e0, e3, e4, e26]) ?_
          rintro envg177 _ ⟨rfl, hl, e0, e3, e4⟩
          try simp only [↓WD, W0, evalOp, Nat.reduceEqDiff, Nat.reduceLT, ↓reduceIte, reduceCtorEq, hl, e0, e3, e4]
          rw [AW_region]
          refine AE_joinR (fun e h' => h173 = h' ∧ e.length = 32 ∧ e.getD 0 .undef = .int .i64 n_ ∧ e.getD 3 .undef = u172 ∧ e.getD 4 .undef = .int .u64 (IntKind.u64.wrap (r146.2.1 + 1))) (by
            simp only [↓WE, WA, WL, aop, ofValue, ofCell, isConst, abin, acall1, abuiltin, aun, AV.cells, AV.one, Nat.reduceAdd, Int.reduceLT, Int.reduceLE, ↓WD, W0, evalOp, Nat.reduceEqDiff, Nat.reduceLT, ↓reduceIte, reduceCtorEq, hl, e0, e3, e4]
            refine ⟨rfl, ?_, ?_, ?_, ?_⟩ <;> simp only [List.length_set, W0, Nat.reduceEqDiff, Nat.reduceLT, ↓reduceIte, hl, e0, e3, e4]) ?_
          rintro envg178 _ ⟨rfl, hl, e0, e3, e4⟩
          try simp only [↓WD, W0, evalOp, Nat.reduceEqDiff, Nat.reduceLT, ↓reduceIte, reduceCtorEq, hl, e0, e3, e4]
          obtain rfl := Option.some.inj wr182
          rw [KP_nil, QL_normal]
          refine ⟨_, rfl, u172, ?_, ?_, ?_, ?_, S176.pick [0] (by decide) rfl⟩ <;> simp only [List.length_set, W0, Nat.reduceEqDiff, Nat.reduceLT, ↓reduceIte, hl, e0, e3, e4]
        · rw [if_neg (nf c164)] at wr182
          try simp only [↓WD, W0, evalOp, Nat.reduceEqDiff, Nat.reduceLT, ↓reduceIte, reduceCtorEq, hl, e0, e3, e4, e26]
          rw [AW_region]
          refine AE_joinR (fun e h' => h147 = h' ∧ e.length = 32 ∧ e.getD 0 .undef = .int .i64 n_ ∧ e.getD 3 .undef = u97 ∧ e.getD 4 .undef = .int .u64 (IntKind.u64.wrap (r146.2.1 + 1))) (by
            simp only [↓WE, WA, WL, aop, ofValue, ofCell, isConst, abin, acall1, abuiltin, aun, AV.cells, AV.one, Nat.reduceAdd, Int.reduceLT, Int.reduceLE, ↓WD, W0, evalOp, Nat.reduceEqDiff, Nat.reduceLT, ↓reduceIte, reduceCtorEq, hl, e0, e3, e4, e26]
            refine ⟨rfl, ?_, ?_, ?_, ?_⟩ <;> simp only [List.length_set, W0, Nat.reduceEqDiff, Nat.reduceLT, ↓reduceIte, hl, e0, e3, e4, e26]) ?_
          rintro envg179 _ ⟨rfl, hl, e0, e3, e4⟩
          try simp only [↓WD, W0, evalOp, Nat.reduceEqDiff, Nat.reduceLT, ↓reduceIte, reduceCtorEq, hl, e0, e3, e4]
          obtain rfl := Option.some.inj wr182
          rw [KP_nil, QL_normal]
          refine ⟨_, rfl, u97, ?_, ?_, ?_, ?_, S148⟩ <;> simp only [List.length_set, W0, Nat.reduceEqDiff, Nat.reduceLT, ↓reduceIte, hl, e0, e3, e4]
    · rw [if_neg c103] at wr182
      try simp only [↓WD, W0, evalOp, Nat.reduceEqDiff, Nat.reduceLT, ↓reduceIte, reduceCtorEq, hl, e0, e3, e4, e10]
      obtain rfl := Option.some.inj wr182
      rw [KP_nil, QL_exit]
      refine ⟨_, rfl, u97, rfl, ?_, ?_, S99⟩ <;> simp only [List.length_set, W0, Nat.reduceEqDiff, Nat.reduceLT, ↓reduceIte, hl, e0, e3, e4, e10]
  · refine ⟨.val (.slice none 0 0), ?_, ?_, ?_, ?_, S91⟩ <;> simp only [List.length_set, W0, Nat.reduceEqDiff, Nat.reduceLT, ↓reduceIte, hl, e0, e3, e4]
  · rintro x envr182 h184 ⟨u183, rfl, hl, e3, S185⟩
    try simp only [↓WD, W0, evalOp, Nat.reduceEqDiff, Nat.reduceLT, ↓reduceIte, reduceCtorEq, hl, e3]
    rw [AW_region]
    refine AE_joinR (fun e h' => h184 = h' ∧ e.length = 32 ∧ e.getD 2 .undef = u183) (by
      simp only [↓WE, WA, WL, aop, ofValue, ofCell, isConst, abin, acall1, abuiltin, aun, AV.cells, AV.one, Nat.reduceAdd, Int.reduceLT, Int.reduceLE, ↓WD, W0, evalOp, Nat.reduceEqDiff, Nat.reduceLT, ↓reduceIte, reduceCtorEq, hl, e3]
      refine ⟨rfl, ?_, ?_⟩ <;> simp only [List.length_set, W0, Nat.reduceEqDiff, Nat.reduceLT, ↓reduceIte, hl, e3]) ?_
    rintro envg186 _ ⟨rfl, hl, e2⟩
    try simp only [↓WD, W0, evalOp, Nat.reduceEqDiff, Nat.reduceLT, ↓reduceIte, reduceCtorEq, hl, e2]
    refine KP_ret (vs := [u183]) (by simp only [aresults, aresult, gs, List.length_set, Nat.reduceEqDiff, Nat.reduceLT, ↓reduceIte, hl, e2]) ?_
    obtain rfl := Option.some.inj hF
    exact ⟨u183, rfl, S185⟩
theorem W_ref04_digits {K : PureK} (n120 : K 120 = none) (m : Nat) (hm : NF + 1 ≤ m) (h : AH) (n_ : Int) {r : (List Int)} (hF : F_ref04_digits n_ = some r) :
    AR (acall Try.prog (hooksOf K) (drawnOf Try.prog (tabOf K)) m 120 [.int .u64 n_] h) (fun v h' => ∃ w0 : AV, v = w0 ∧ Sep h [] h' [.row w0 24 1 (r.map (cellI .u64))]) := by
  obtain ⟨m, rfl⟩ : ∃ k, m = k + 1 := ⟨m - 1, by omega⟩
  refine AR_call (hooksOf_none n120) Try.func120 rfl _ _ fun env hl he => ?_
  have e0 := he 0
  simp only [List.getD_cons_zero, List.getD_cons_succ] at e0
  simp only [Try.f120] at hl ⊢
  simp only [List.length_cons, List.length_nil, Nat.reduceAdd, Nat.reduceSub] at hl
  clear he
  have S0 : Sep h [] h [] := Sep.nil h
  rw [F_ref04_digits] at hF
  try simp only [↓WD, W0, evalOp, Nat.reduceEqDiff, Nat.reduceLT, ↓reduceIte, reduceCtorEq, hl, e0]
  rw [AW_region]
  refine AE_joinR (fun e h' => h = h' ∧ e.length = 14 ∧ e.getD 0 .undef = .int .u64 n_) (by
    simp only [↓WE, WA, WL, aop, ofValue, ofCell, isConst, abin, acall1, abuiltin, aun, AV.cells, AV.one, Nat.reduceAdd, Int.reduceLT, Int.reduceLE, ↓WD, W0, evalOp, Nat.reduceEqDiff, Nat.reduceLT, ↓reduceIte, reduceCtorEq, hl, e0]
    refine ⟨rfl, ?_, ?_⟩ <;> simp only [List.length_set, W0, Nat.reduceEqDiff, Nat.reduceLT, ↓reduceIte, hl, e0]) ?_
  rintro envg1 _ ⟨rfl, hl, e0⟩
  try simp only [↓WD, W0, evalOp, Nat.reduceEqDiff, Nat.reduceLT, ↓reduceIte, reduceCtorEq, hl, e0]
  rw [AW_region]
  obtain ⟨y2, qy2, hF⟩ := obind hF
  have oy2 := rem_int (k := .u64) qy2
  obtain ⟨y3, qy3, hF⟩ := obind hF
  have oy3 := quo_int (k := .u64) qy3
  obtain ⟨y4, qy4, hF⟩ := obind hF
  have oy4 := rem_int (k := .u64) qy4
  obtain ⟨y5, qy5, hF⟩ := obind hF
  have oy5 := quo_int (k := .u64) qy5
  obtain ⟨y6, qy6, hF⟩ := obind hF
  have oy6 := rem_int (k := .u64) qy6
  obtain ⟨y7, qy7, hF⟩ := obind hF
  have oy7 := quo_int (k := .u64) qy7
  obtain ⟨u8, h9, ob10, S11⟩ := Sep.build (P := Try.prog) sl_141 S0 [.int .u64 y2, .int .u64 y4, .int .u64 y6, .int .u64 y7] (([y2, y4, y6, y7] : List Int).map (cellI .u64)) rfl (by simp [cellI]) (by simp)
  have ob10 : abuildSlice Try.prog 141 4 [(0, .int .u64 y2), (1, .int .u64 y4), (2, .int .u64 y6), (3, .int .u64 y7)] h = some (u8, h9) := ob10
  have S13 : Sep h [] h9 [.row u8 24 1 (([y2, y4, y6, y7] : List Int).map (cellI .u64))] := S11
  refine AE_joinR (fun e h' => h9 = h' ∧ e.length = 14 ∧ e.getD 2 .undef = u8) (by
    simp only [↓WE, WA, WL, aop, ofValue, ofCell, isConst, abin, acall1, abuiltin, aun, AV.cells, AV.one, Nat.reduceAdd, Int.reduceLT, Int.reduceLE, ↓WD, W0, evalOp, Nat.reduceEqDiff, Nat.reduceLT, ↓reduceIte, reduceCtorEq, hl, e0, oy2, oy3, oy4, oy5, oy6, oy7, ob10]
    refine ⟨rfl, ?_, ?_⟩ <;> simp only [List.length_set, W0, Nat.reduceEqDiff, Nat.reduceLT, ↓reduceIte, hl, e0]) ?_
  rintro envg14 _ ⟨rfl, hl, e2⟩
  try simp only [↓WD, W0, evalOp, Nat.reduceEqDiff, Nat.reduceLT, ↓reduceIte, reduceCtorEq, hl, e2]
  refine KP_ret (vs := [u8]) (by simp only [aresults, aresult, gs, List.length_set, Nat.reduceEqDiff, Nat.reduceLT, ↓reduceIte, hl, e2]) ?_
  obtain rfl := Option.some.inj hF
  exact ⟨u8, rfl, S13⟩
theorem W_ref04_times {K : PureK} (n121 : K 121 = none) (m : Nat) (hm : NF + 1 ≤ m) (h : AH) (ua : AV) (a : List Int) (hua : RO 1 ua h (a.map (cellI .u64))) (ub : AV) (b : List Int) (hub : RO 1 ub h (b.map (cellI .u64))) {r : (List Int)} (hF : F_ref04_times a b = some r) :
    AR (acall Try.prog (hooksOf K) (drawnOf Try.prog (tabOf K)) m 121 [ua, ub] h) (fun v h' => ∃ w0 : AV, v = w0 ∧ Sep h [] h' [.row w0 24 1 (r.map (cellI .u64))]) := by
  obtain ⟨m, rfl⟩ : ∃ k, m = k + 1 := ⟨m - 1, by omega⟩
  refine AR_call (hooksOf_none n121) Try.func121 rfl _ _ fun env hl he => ?_
  have e0 := he 0
  have e1 := he 1
  simp only [List.getD_cons_zero, List.getD_cons_succ] at e0 e1
  simp only [Try.f121] at hl ⊢
  simp only [List.length_cons, List.length_nil, Nat.reduceAdd, Nat.reduceSub] at hl
  clear he
  have S0 : Sep h [] h [] := Sep.nil h
  rw [F_ref04_times] at hF
  try simp only [↓WD, W0, evalOp, Nat.reduceEqDiff, Nat.reduceLT, ↓reduceIte, reduceCtorEq, hl, e0, e1]
  rw [AW_region]
  refine AE_joinR (fun e h' => h = h' ∧ e.length = 67 ∧ e.getD 0 .undef = ua ∧ e.getD 1 .undef = ub) (by
    simp only [↓WE, WA, WL, aop, ofValue, ofCell, isConst, abin, acall1, abuiltin, aun, AV.cells, AV.one, Nat.reduceAdd, Int.reduceLT, Int.reduceLE, ↓WD, W0, evalOp, Nat.reduceEqDiff, Nat.reduceLT, ↓reduceIte, reduceCtorEq, hl, e0, e1]
    refine ⟨rfl, ?_, ?_, ?_⟩ <;> simp only [List.length_set, W0, Nat.reduceEqDiff, Nat.reduceLT, ↓reduceIte, hl, e0, e1]) ?_
  rintro envg1 _ ⟨rfl, hl, e0, e1⟩
  try simp only [↓WD, W0, evalOp, Nat.reduceEqDiff, Nat.reduceLT, ↓reduceIte, reduceCtorEq, hl, e0, e1]
  rw [AW_region]
  have ol2 := RO.len (P := Try.prog) sl_141 (S0.ro hua)
  rw [List.length_map] at ol2
  have ol3 := RO.len (P := Try.prog) sl_141 (S0.ro hub)
  rw [List.length_map] at ol3
  obtain ⟨zs4, qzs4, hF⟩ := obind hF
  obtain ⟨u5, h6, om7, S8⟩ := Sep.make (P := Try.prog) sl_141 (f := (cellI .u64)) (by rw [zero_24]; rfl) S0 qzs4 .i64 .i64
  have S10 : Sep h [] h6 [.row u5 24 1 (zs4.map (cellI .u64))] := S8
  refine AE_joinR (fun e h' => h6 = h' ∧ e.length = 67 ∧ e.getD 0 .undef = ua ∧ e.getD 1 .undef = ub ∧ e.getD 5 .undef = u5) (by
    simp only [↓WE, WA, WL, aop, ofValue, ofCell, isConst, abin, acall1, abuiltin, aun, AV.cells, AV.one, Nat.reduceAdd, Int.reduceLT, Int.reduceLE, ↓WD, W0, evalOp, Nat.reduceEqDiff, Nat.reduceLT, ↓reduceIte, reduceCtorEq, hl, e0, e1, ol2, ol3, om7]
    refine ⟨rfl, ?_, ?_, ?_, ?_⟩ <;> simp only [List.length_set, W0, Nat.reduceEqDiff, Nat.reduceLT, ↓reduceIte, hl, e0, e1]) ?_
  rintro envg11 _ ⟨rfl, hl, e0, e1, e5⟩
  try simp only [↓WD, W0, evalOp, Nat.reduceEqDiff, Nat.reduceLT, ↓reduceIte, reduceCtorEq, hl, e0, e1, e5]
  rw [AW_region]
  refine AE_joinR (fun e h' => h6 = h' ∧ e.length = 67 ∧ e.getD 0 .undef = ua ∧ e.getD 1 .undef = ub ∧ e.getD 5 .undef = u5 ∧ e.getD 6 .undef = .int .i64 0) (by
    simp only [↓WE, WA, WL, aop, ofValue, ofCell, isConst, abin, acall1, abuiltin, aun, AV.cells, AV.one, Nat.reduceAdd, Int.reduceLT, Int.reduceLE, ↓WD, W0, evalOp, Nat.reduceEqDiff, Nat.reduceLT, ↓reduceIte, reduceCtorEq, hl, e0, e1, e5]
    refine ⟨rfl, ?_, ?_, ?_, ?_, ?_⟩ <;> simp only [List.length_set, W0, Nat.reduceEqDiff, Nat.reduceLT, ↓reduceIte, hl, e0, e1, e5]) ?_
  rintro envg12 _ ⟨rfl, hl, e0, e1, e5, e6⟩
  try simp only [↓WD, W0, evalOp, Nat.reduceEqDiff, Nat.reduceLT, ↓reduceIte, reduceCtorEq, hl, e0, e1, e5, e6]
  obtain ⟨r249, qr249, hF⟩ := obind hF
  refine AW_lift (L_ref04_times_1 a b) (fun s e h' => e.length = 67 ∧ e.getD 0 .undef = ua ∧ e.getD 1 .undef = ub ∧ e.getD 5 .undef = u5 ∧ e.getD 6 .undef = .int .i64 s.2 ∧ Sep h [] h' [.row u5 24 1 (s.1.map (cellI .u64))]) (fun r249 x e h' => x = .exit 0 ∧ e.length = 67 ∧ e.getD 5 .undef = u5 ∧ Sep h [] h' [.row u5 24 1 (r249.map (cellI .u64))]) qr249 (by omega) ?_ ?_ ?_
  · rintro s envr249 h131 or249 ⟨hl, e0, e1, e5, e6, S132⟩ wr249
    rw [L_ref04_times_1] at wr249
    try simp only [↓WD, W0, evalOp, Nat.reduceEqDiff, Nat.reduceLT, ↓reduceIte, reduceCtorEq, hl, e0, e1, e5, e6]
    rw [AW_region]
    have ol133 := RO.len (P := Try.prog) sl_141 (S132.ro hua)
    rw [List.length_map] at ol133
    refine AE_joinR (fun e h' => h131 = h' ∧ e.length = 67 ∧ e.getD 0 .undef = ua ∧ e.getD 1 .undef = ub ∧ e.getD 5 .undef = u5 ∧ e.getD 6 .undef = .int .i64 s.2 ∧ e.getD 21 .undef = .bool (decide (s.2 < (a.length : Int)))) (by
      simp only [↓WE, WA, WL, aop, ofValue, ofCell, isConst, abin, acall1, abuiltin, aun, AV.cells, AV.one, Nat.reduceAdd, Int.reduceLT, Int.reduceLE, ↓WD, W0, evalOp, Nat.reduceEqDiff, Nat.reduceLT, ↓reduceIte, reduceCtorEq, hl, e0, e1, e5, e6, ol133]
      refine ⟨rfl, ?_, ?_, ?_, ?_, ?_, ?_⟩ <;> simp only [List.length_set, W0, Nat.reduceEqDiff, Nat.reduceLT, ↓reduceIte, hl, e0, e1, e5, e6]) ?_
    rintro envg134 _ ⟨rfl, hl, e0, e1, e5, e6, e21⟩
    try simp only [↓WD, W0, evalOp, Nat.reduceEqDiff, Nat.reduceLT, ↓reduceIte, reduceCtorEq, hl, e0, e1, e5, e6, e21]
    refine CondK_dec (fun c136 => ?_) (fun c136 => ?_)
    · rw [if_pos c136] at wr249
      try simp only [↓WD, W0, evalOp, Nat.reduceEqDiff, Nat.reduceLT, ↓reduceIte, reduceCtorEq, hl, e0, e1, e5, e6, e21]
      rw [AW_region]
      refine AE_joinR (fun e h' => h131 = h' ∧ e.length = 67 ∧ e.getD 0 .undef = ua ∧ e.getD 1 .undef = ub ∧ e.getD 5 .undef = u5 ∧ e.getD 6 .undef = .int .i64 s.2 ∧ e.getD 7 .undef = .int .u64 0) (by
        simp only [↓WE, WA, WL, aop, ofValue, ofCell, isConst, abin, acall1, abuiltin, aun, AV.cells, AV.one, Nat.reduceAdd, Int.reduceLT, Int.reduceLE, ↓WD, W0, evalOp, Nat.reduceEqDiff, Nat.reduceLT, ↓reduceIte, reduceCtorEq, hl, e0, e1, e5, e6, e21]
        refine ⟨rfl, ?_, ?_, ?_, ?_, ?_, ?_⟩ <;> simp only [List.length_set, W0, Nat.reduceEqDiff, Nat.reduceLT, ↓reduceIte, hl, e0, e1, e5, e6, e21]) ?_
      rintro envg137 _ ⟨rfl, hl, e0, e1, e5, e6, e7⟩
      try simp only [↓WD, W0, evalOp, Nat.reduceEqDiff, Nat.reduceLT, ↓reduceIte, reduceCtorEq, hl, e0, e1, e5, e6, e7]
      rw [AW_region]
      refine AE_joinR (fun e h' => h131 = h' ∧ e.length = 67 ∧ e.getD 0 .undef = ua ∧ e.getD 1 .undef = ub ∧ e.getD 5 .undef = u5 ∧ e.getD 6 .undef = .int .i64 s.2 ∧ e.getD 7 .undef = .int .u64 0 ∧ e.getD 8 .undef = .int .i64 0) (by
        simp only [↓WE, WA, WL, aop, ofValue, ofCell, isConst, abin, acall1, abuiltin, aun, AV.cells, AV.one, Nat.reduceAdd, Int.reduceLT, Int.reduceLE, ↓WD, W0, evalOp, Nat.reduceEqDiff, Nat.reduceLT, ↓reduceIte, reduceCtorEq, hl, e0, e1, e5, e6, e7]
        refine ⟨rfl, ?_, ?_, ?_, ?_, ?_, ?_, ?_⟩ <;> simp only [List.length_set, W0, Nat.reduceEqDiff, Nat.reduceLT, ↓reduceIte, hl, e0, e1, e5, e6, e7]) ?_
      rintro envg138 _ ⟨rfl, hl, e0, e1, e5, e6, e7, e8⟩
      try simp only [↓WD, W0, evalOp, Nat.reduceEqDiff, Nat.reduceLT, ↓reduceIte, reduceCtorEq, hl, e0, e1, e5, e6, e7, e8]
      obtain ⟨r245, qr245, wr249⟩ := obind wr249
      refine AW_lift (L_ref04_times_2 b a) (fun s e h' => e.length = 67 ∧ e.getD 0 .undef = ua ∧ e.getD 1 .undef = ub ∧ e.getD 5 .undef = u5 ∧ e.getD 6 .undef = .int .i64 s.2.1 ∧ e.getD 7 .undef = .int .u64 s.2.2.1 ∧ e.getD 8 .undef = .int .i64 s.2.2.2 ∧ Sep h [] h' [.row u5 24 1 (s.1.map (cellI .u64))]) (fun r245 x e h' => x = .exit 2 ∧ e.length = 67 ∧ e.getD 0 .undef = ua ∧ e.getD 1 .undef = ub ∧ e.getD 5 .undef = u5 ∧ e.getD 6 .undef = .int .i64 r245.2 ∧ Sep h [] h' [.row u5 24 1 (r245.1.map (cellI .u64))]) qr245 (by omega) ?_ ?_ ?_
      · rintro s envr245 h192 or245 ⟨hl, e0, e1, e5, e6, e7, e8, S193⟩ wr245
        rw [L_ref04_times_2] at wr245
        try simp only [↓WD, W0, evalOp, Nat.reduceEqDiff, Nat.reduceLT, ↓reduceIte, reduceCtorEq, hl, e0, e1, e5, e6, e7, e8]
        rw [AW_region]
        obtain ⟨j198, qj198, wr245⟩ := obind wr245
        refine AE_joinR (fun e h' => e.length = 67 ∧ e.getD 0 .undef = ua ∧ e.getD 1 .undef = ub ∧ e.getD 5 .undef = u5 ∧ e.getD 6 .undef = .int .i64 s.2.1 ∧ e.getD 7 .undef = .int .u64 s.2.2.1 ∧ e.getD 8 .undef = .int .i64 s.2.2.2 ∧ e.getD 31 .undef = .bool j198 ∧ Sep h [] h' [.row u5 24 1 (s.1.map (cellI .u64))]) ?_ ?_
        · have ol194 := RO.len (P := Try.prog) sl_141 (S193.ro hub)
          rw [List.length_map] at ol194
          simp only [↓WE, WA, WL, aop, ofValue, ofCell, isConst, abin, acall1, abuiltin, aun, AV.cells, AV.one, Nat.reduceAdd, Int.reduceLT, Int.reduceLE, ↓WD, W0, evalOp, Nat.reduceEqDiff, Nat.reduceLT, ↓reduceIte, reduceCtorEq, hl, e0, e1, e5, e6, e7, e8, ol194]
          refine GuardW_dec (fun c195 => ?_) (fun c195 => ?_)
          · rw [if_pos c195] at qj198
            have d196 : (decide (s.2.2.2 < (b.length : Int))) = true := decide_eq_true c195
            simp only [↓WE, WA, WL, aop, ofValue, ofCell, isConst, abin, acall1, abuiltin, aun, AV.cells, AV.one, Nat.reduceAdd, Int.reduceLT, Int.reduceLE, ↓WD, W0, evalOp, Nat.reduceEqDiff, Nat.reduceLT, ↓reduceIte, reduceCtorEq, hl, e0, e1, e5, e6, e7, e8, ol194, d196]
            obtain rfl := Option.some.inj qj198
            refine ⟨?_, ?_, ?_, ?_, ?_, ?_, ?_, ?_, S193⟩ <;> simp only [List.length_set, W0, Nat.reduceEqDiff, Nat.reduceLT, ↓reduceIte, hl, e0, e1, e5, e6, e7, e8]
          · rw [if_neg c195] at qj198
            have d197 : (decide (s.2.2.2 < (b.length : Int))) = false := decide_eq_false c195
            simp only [↓WE, WA, WL, aop, ofValue, ofCell, isConst, abin, acall1, abuiltin, aun, AV.cells, AV.one, Nat.reduceAdd, Int.reduceLT, Int.reduceLE, ↓WD, W0, evalOp, Nat.reduceEqDiff, Nat.reduceLT, ↓reduceIte, reduceCtorEq, hl, e0, e1, e5, e6, e7, e8, ol194, d197]
            obtain rfl := Option.some.inj qj198
            refine ⟨?_, ?_, ?_, ?_, ?_, ?_, ?_, ?_, S193⟩ <;> simp only [List.length_set, W0, Nat.reduceEqDiff, Nat.reduceLT, ↓reduceIte, hl, e0, e1, e5, e6, e7, e8]
        · rintro envj198 h200 ⟨hl, e0, e1, e5, e6, e7, e8, e31, S199⟩
          try simp only [↓WD, W0, evalOp, Nat.reduceEqDiff, Nat.reduceLT, ↓reduceIte, reduceCtorEq, hl, e0, e1, e5, e6, e7, e8, e31]
          refine CondK_boo (fun c202 => ?_) (fun c202 => ?_)
          · rw [if_pos c202] at wr245
            try simp only [↓WD, W0, evalOp, Nat.reduceEqDiff, Nat.reduceLT, ↓reduceIte, reduceCtorEq, hl, e0, e1, e5, e6, e7, e8, e31]
            rw [AW_region]
            refine AE_joinR (fun e h' => h200 = h' ∧ e.length = 67 ∧ e.getD 0 .undef = ua ∧ e.getD 1 .undef = ub ∧ e.getD 5 .undef = u5 ∧ e.getD 6 .undef = .int .i64 s.2.1 ∧ e.getD 7 .undef = .int .u64 s.2.2.1 ∧ e.getD 8 .undef = .int .i64 s.2.2.2 ∧ e.getD 9 .undef = .int .u64 0) (by
              simp only [↓WE, WA, WL, aop, ofValue, ofCell, isConst, abin, acall1, abuiltin, aun, AV.cells, AV.one, Nat.reduceAdd, Int.reduceLT, Int.reduceLE, ↓WD, W0, evalOp, Nat.reduceEqDiff, Nat.reduceLT, ↓reduceIte, reduceCtorEq, hl, e0, e1, e5, e6, e7, e8, e31]
              refine ⟨rfl, ?_, ?_, ?_, ?_, ?_, ?_, ?_, ?_⟩ <;> simp only [List.length_set, W0, Nat.reduceEqDiff, Nat.reduceLT, ↓reduceIte, hl, e0, e1, e5, e6, e7, e8, e31]) ?_
            rintro envg203 _ ⟨rfl, hl, e0, e1, e5, e6, e7, e8, e9⟩
            try simp only [↓WD, W0, evalOp, Nat.reduceEqDiff, Nat.reduceLT, ↓reduceIte, reduceCtorEq, hl, e0, e1, e5, e6, e7, e8, e9]
            rw [AW_region]
            have ol204 := RO.len (P := Try.prog) sl_141 (S199.ro hub)
            rw [List.length_map] at ol204
            refine AE_joinR (fun e h' => h200 = h' ∧ e.length = 67 ∧ e.getD 0 .undef = ua ∧ e.getD 1 .undef = ub ∧ e.getD 5 .undef = u5 ∧ e.getD 6 .undef = .int .i64 s.2.1 ∧ e.getD 7 .undef = .int .u64 s.2.2.1 ∧ e.getD 8 .undef = .int .i64 s.2.2.2 ∧ e.getD 9 .undef = .int .u64 0 ∧ e.getD 37 .undef = .bool (decide (s.2.2.2 < (b.length : Int)))) (by
              simp only [↓WE, WA, WL, aop, ofValue, ofCell, isConst, abin, acall1, abuiltin, aun, AV.cells, AV.one, Nat.reduceAdd, Int.reduceLT, Int.reduceLE, ↓WD, W0, evalOp, Nat.reduceEqDiff, Nat.reduceLT, ↓reduceIte, reduceCtorEq, hl, e0, e1, e5, e6, e7, e8, e9, ol204]
              refine ⟨rfl, ?_, ?_, ?_, ?_, ?_, ?_, ?_, ?_, ?_⟩ <;> simp only [List.length_set, W0, Nat.reduceEqDiff, Nat.reduceLT, ↓reduceIte, hl, e0, e1, e5, e6, e7, e8, e9]) ?_
            rintro envg205 _ ⟨rfl, hl, e0, e1, e5, e6, e7, e8, e9, e37⟩
            try simp only [↓WD, W0, evalOp, Nat.reduceEqDiff, Nat.reduceLT, ↓reduceIte, reduceCtorEq, hl, e0, e1, e5, e6, e7, e8, e9, e37]
            obtain ⟨j214, qj214, wr245⟩ := obind wr245
            refine CondK_join (fun e h' => e.length = 67 ∧ e.getD 0 .undef = ua ∧ e.getD 1 .undef = ub ∧ e.getD 5 .undef = u5 ∧ e.getD 6 .undef = .int .i64 s.2.1 ∧ e.getD 7 .undef = .int .u64 s.2.2.1 ∧ e.getD 8 .undef = .int .i64 s.2.2.2 ∧ e.getD 9 .undef = .int .u64 j214 ∧ Sep h [] h' [.row u5 24 1 (s.1.map (cellI .u64))]) ?_ ?_
            · refine CondK_dec (fun c206 => ?_) (fun c206 => ?_)
              · rw [if_pos c206] at qj214
                try simp only [↓WD, W0, evalOp, Nat.reduceEqDiff, Nat.reduceLT, ↓reduceIte, reduceCtorEq, hl, e0, e1, e5, e6, e7, e8, e9, e37]
                rw [AW_region]
                obtain ⟨x207, qx207, qj214⟩ := obind qj214
                obtain ⟨i208, off209, oi210, hp211⟩ := RO.addr (P := Try.prog) sl_141 (S199.ro hub) qx207
                have ol212 := RO.ld (P := Try.prog) (S199.ro hub) hp211 qx207 (t := 24) (o := 0) (v := .int .u64 x207) (by omega) (by simp only [apart, ag_24, sz_24]; rfl)
                simp only [Nat.add_zero] at ol212
                refine AE_joinR (fun e h' => h200 = h' ∧ e.length = 67 ∧ e.getD 0 .undef = ua ∧ e.getD 1 .undef = ub ∧ e.getD 5 .undef = u5 ∧ e.getD 6 .undef = .int .i64 s.2.1 ∧ e.getD 7 .undef = .int .u64 s.2.2.1 ∧ e.getD 8 .undef = .int .i64 s.2.2.2 ∧ e.getD 9 .undef = .int .u64 x207) (by
                  simp only [↓WE, WA, WL, aop, ofValue, ofCell, isConst, abin, acall1, abuiltin, aun, AV.cells, AV.one, Nat.reduceAdd, Int.reduceLT, Int.reduceLE, ↓WD, W0, evalOp, Nat.reduceEqDiff, Nat.reduceLT, ↓reduceIte, reduceCtorEq, hl, e0, e1, e5, e6, e7, e8, e9, e37, oi210, ol212]
                  refine ⟨rfl, ?_, ?_, ?_, ?_, ?_, ?_, ?_, ?_⟩ <;> simp only [List.length_set, W0, Nat.reduceEqDiff, Nat.reduceLT, ↓reduceIte, hl, e0, e1, e5, e6, e7, e8, e9, e37]) ?_
                rintro envg213 _ ⟨rfl, hl, e0, e1, e5, e6, e7, e8, e9⟩
                try simp only [↓WD, W0, evalOp, Nat.reduceEqDiff, Nat.reduceLT, ↓reduceIte, reduceCtorEq, hl, e0, e1, e5, e6, e7, e8, e9]
                rw [KP_nil, KJ_normal]
                obtain rfl := Option.some.inj qj214
                refine ⟨?_, ?_, ?_, ?_, ?_, ?_, ?_, ?_, S199⟩ <;> simp only [List.length_set, W0, Nat.reduceEqDiff, Nat.reduceLT, ↓reduceIte, hl, e0, e1, e5, e6, e7, e8, e9]
              · rw [if_neg c206] at qj214
                try simp only [↓WD, W0, evalOp, Nat.reduceEqDiff, Nat.reduceLT, ↓reduceIte, reduceCtorEq, hl, e0, e1, e5, e6, e7, e8, e9, e37]
                rw [KP_nil, KJ_normal]
                obtain rfl := Option.some.inj qj214
                refine ⟨?_, ?_, ?_, ?_, ?_, ?_, ?_, ?_, S199⟩ <;> simp only [List.length_set, W0, Nat.reduceEqDiff, Nat.reduceLT, ↓reduceIte, hl, e0, e1, e5, e6, e7, e8, e9, e37]
            · rintro envj214 h216 ⟨hl, e0, e1, e5, e6, e7, e8, e9, S215⟩
              try simp only [↓WD, W0, evalOp, Nat.reduceEqDiff, Nat.reduceLT, ↓reduceIte, reduceCtorEq, hl, e0, e1, e5, e6, e7, e8, e9]
              rw [AW_drawn, AE_drawnK Ksub.nil (by kernel_rfl)]
              obtain ⟨x217, qx217, wr245⟩ := obind wr245
              obtain ⟨i218, off219, oi220, hp221⟩ := RO.addr (P := Try.prog) sl_141 (S215.row_ro (i := 0) rfl) qx217
              have ol222 := RO.ld (P := Try.prog) (S215.row_ro (i := 0) rfl) hp221 qx217 (t := 24) (o := 0) (v := .int .u64 x217) (by omega) (by simp only [apart, ag_24, sz_24]; rfl)
              simp only [Nat.add_zero] at ol222
              obtain ⟨x223, qx223, wr245⟩ := obind wr245
              obtain ⟨i224, off225, oi226, hp227⟩ := RO.addr (P := Try.prog) sl_141 (S215.ro hua) qx223
              have ol228 := RO.ld (P := Try.prog) (S215.ro hua) hp227 qx223 (t := 24) (o := 0) (v := .int .u64 x223) (by omega) (by simp only [apart, ag_24, sz_24]; rfl)
              simp only [Nat.add_zero] at ol228
              refine AE_joinR (fun e h' => h216 = h' ∧ e.length = 67 ∧ e.getD 0 .undef = ua ∧ e.getD 1 .undef = ub ∧ e.getD 5 .undef = u5 ∧ e.getD 6 .undef = .int .i64 s.2.1 ∧ e.getD 8 .undef = .int .i64 s.2.2.2 ∧ e.getD 10 .undef = .int .u64 (IntKind.u64.wrap ((IntKind.u64.wrap (x217 + (IntKind.u64.wrap (x223 * j214)))) + s.2.2.1))) (by
                simp only [↓WE, WA, WL, aop, ofValue, ofCell, isConst, abin, acall1, abuiltin, aun, AV.cells, AV.one, Nat.reduceAdd, Int.reduceLT, Int.reduceLE, ↓WD, W0, evalOp, Nat.reduceEqDiff, Nat.reduceLT, ↓reduceIte, reduceCtorEq, hl, e0, e1, e5, e6, e7, e8, e9, oi220, ol222, oi226, ol228]
                refine ⟨rfl, ?_, ?_, ?_, ?_, ?_, ?_, ?_⟩ <;> simp only [List.length_set, W0, Nat.reduceEqDiff, Nat.reduceLT, ↓reduceIte, hl, e0, e1, e5, e6, e7, e8, e9]) ?_
              rintro envg229 _ ⟨rfl, hl, e0, e1, e5, e6, e8, e10⟩
              try simp only [↓WD, W0, evalOp, Nat.reduceEqDiff, Nat.reduceLT, ↓reduceIte, reduceCtorEq, hl, e0, e1, e5, e6, e8, e10]
              rw [AW_region]
              obtain ⟨y230, qy230, wr245⟩ := obind wr245
              have oy230 := rem_int (k := .u64) qy230
              obtain ⟨y239, qy239, wr245⟩ := obind wr245
              obtain ⟨h236, os237, S238⟩ := S215.rstore (P := Try.prog) 0 rfl hp221 (x := x217) (z := y230) (by first | exact qx217 | (simp only [idxL] at *; assumption)) (t := 24) (o := 0) (v := .int .u64 y230) rfl sz_24 rfl (by simp) rfl qy239
              simp only [Nat.add_zero] at os237
              have S240 : Sep h [] h236 [.row u5 24 1 (y239.map (cellI .u64))] := S238
              refine AE_joinR (fun e h' => h236 = h' ∧ e.length = 67 ∧ e.getD 0 .undef = ua ∧ e.getD 1 .undef = ub ∧ e.getD 5 .undef = u5 ∧ e.getD 6 .undef = .int .i64 s.2.1 ∧ e.getD 8 .undef = .int .i64 s.2.2.2 ∧ e.getD 10 .undef = .int .u64 (IntKind.u64.wrap ((IntKind.u64.wrap (x217 + (IntKind.u64.wrap (x223 * j214)))) + s.2.2.1))) (by
                simp only [↓WE, WA, WL, aop, ofValue, ofCell, isConst, abin, acall1, abuiltin, aun, AV.cells, AV.one, Nat.reduceAdd, Int.reduceLT, Int.reduceLE, ↓WD, W0, evalOp, Nat.reduceEqDiff, Nat.reduceLT, ↓reduceIte, reduceCtorEq, hl, e0, e1, e5, e6, e8, e10, oy230, oi220, os237]
                refine ⟨rfl, ?_, ?_, ?_, ?_, ?_, ?_, ?_⟩ <;> simp only [List.length_set, W0, Nat.reduceEqDiff, Nat.reduceLT, ↓reduceIte, hl, e0, e1, e5, e6, e8, e10]) ?_
              rintro envg241 _ ⟨rfl, hl, e0, e1, e5, e6, e8, e10⟩
              try simp only [↓WD, W0, evalOp, Nat.reduceEqDiff, Nat.reduceLT, ↓reduceIte, reduceCtorEq, hl, e0, e1, e5, e6, e8, e10]
              rw [AW_region]
              obtain ⟨y242, qy242, wr245⟩ := obind wr245
              have oy242 := quo_int (k := .u64) qy242
              refine AE_joinR (fun e h' => h236 = h' ∧ e.length = 67 ∧ e.getD 0 .undef = ua ∧ e.getD 1 .undef = ub ∧ e.getD 5 .undef = u5 ∧ e.getD 6 .undef = .int .i64 s.2.1 ∧ e.getD 7 .undef = .int .u64 y242 ∧ e.getD 8 .undef = .int .i64 s.2.2.2) (by
                simp only [↓WE, WA, WL, aop, ofValue, ofCell, isConst, abin, acall1, abuiltin, aun, AV.cells, AV.one, Nat.reduceAdd, Int.reduceLT, Int.reduceLE, ↓WD, W0, evalOp, Nat.reduceEqDiff, Nat.reduceLT, ↓reduceIte, reduceCtorEq, hl, e0, e1, e5, e6, e8, e10, oy242]
                refine ⟨rfl, ?_, ?_, ?_, ?_, ?_, ?_, ?_⟩ <;> simp only [List.length_set, W0, Nat.reduceEqDiff, Nat.reduceLT, ↓reduceIte, hl, e0, e1, e5, e6, e8, e10]) ?_
              rintro envg243 _ ⟨rfl, hl, e0, e1, e5, e6, e7, e8⟩
              try simp only [↓WD, W0, evalOp, Nat.reduceEqDiff, Nat.reduceLT, ↓reduceIte, reduceCtorEq, hl, e0, e1, e5, e6, e7, e8]
              rw [AW_region]
              refine AE_joinR (fun e h' => h236 = h' ∧ e.length = 67 ∧ e.getD 0 .undef = ua ∧ e.getD 1 .undef = ub ∧ e.getD 5 .undef = u5 ∧ e.getD 6 .undef = .int .i64 s.2.1 ∧ e.getD 7 .undef = .int .u64 y242 ∧ e.getD 8 .undef = .int .i64 (IntKind.i64.wrap (s.2.2.2 + 1))) (by
                simp only [↓WE, WA, WL, aop, ofValue, ofCell, isConst, abin, acall1, abuiltin, aun, AV.cells, AV.one, Nat.reduceAdd, Int.reduceLT, Int.reduceLE, ↓WD, W0, evalOp, Nat.reduceEqDiff, Nat.reduceLT, ↓reduceIte, reduceCtorEq, hl, e0, e1, e5, e6, e7, e8]
                refine ⟨rfl, ?_, ?_, ?_, ?_, ?_, ?_, ?_⟩ <;> simp only [List.length_set, W0, Nat.reduceEqDiff, Nat.reduceLT, ↓reduceIte, hl, e0, e1, e5, e6, e7, e8]) ?_
              rintro envg244 _ ⟨rfl, hl, e0, e1, e5, e6, e7, e8⟩
              try simp only [↓WD, W0, evalOp, Nat.reduceEqDiff, Nat.reduceLT, ↓reduceIte, reduceCtorEq, hl, e0, e1, e5, e6, e7, e8]
              obtain rfl := Option.some.inj wr245
              rw [KP_nil, QL_normal]
              refine ⟨_, rfl, ?_, ?_, ?_, ?_, ?_, ?_, ?_, S240⟩ <;> simp only [List.length_set, W0, Nat.reduceEqDiff, Nat.reduceLT, ↓reduceIte, hl, e0, e1, e5, e6, e7, e8]
          · rw [if_neg (nf c202)] at wr245
            try simp only [↓WD, W0, evalOp, Nat.reduceEqDiff, Nat.reduceLT, ↓reduceIte, reduceCtorEq, hl, e0, e1, e5, e6, e7, e8, e31]
            obtain rfl := Option.some.inj wr245
            rw [KP_nil, QL_exit]
            refine ⟨_, rfl, rfl, ?_, ?_, ?_, ?_, ?_, S199⟩ <;> simp only [List.length_set, W0, Nat.reduceEqDiff, Nat.reduceLT, ↓reduceIte, hl, e0, e1, e5, e6, e7, e8, e31]
      · refine ⟨?_, ?_, ?_, ?_, ?_, ?_, ?_, S132⟩ <;> simp only [List.length_set, W0, Nat.reduceEqDiff, Nat.reduceLT, ↓reduceIte, hl, e0, e1, e5, e6, e7, e8]
      · rintro x envr245 h246 ⟨rfl, hl, e0, e1, e5, e6, S247⟩
        try simp only [↓WD, W0, evalOp, Nat.reduceEqDiff, Nat.reduceLT, ↓reduceIte, reduceCtorEq, hl, e0, e1, e5, e6]
        rw [AW_region]
        refine AE_joinR (fun e h' => h246 = h' ∧ e.length = 67 ∧ e.getD 0 .undef = ua ∧ e.getD 1 .undef = ub ∧ e.getD 5 .undef = u5 ∧ e.getD 6 .undef = .int .i64 (IntKind.i64.wrap (r245.2 + 1))) (by
          simp only [↓WE, WA, WL, aop, ofValue, ofCell, isConst, abin, acall1, abuiltin, aun, AV.cells, AV.one, Nat.reduceAdd, Int.reduceLT, Int.reduceLE, ↓WD, W0, evalOp, Nat.reduceEqDiff, Nat.reduceLT, ↓reduceIte, reduceCtorEq, hl, e0, e1, e5, e6]
          refine ⟨rfl, ?_, ?_, ?_, ?_, ?_⟩ <;> simp only [List.length_set, W0, Nat.reduceEqDiff, Nat.reduceLT, ↓reduceIte, hl, e0, e1, e5, e6]) ?_
        rintro envg248 _ ⟨rfl, hl, e0, e1, e5, e6⟩
        try simp only [↓WD, W0, evalOp, Nat.reduceEqDiff, Nat.reduceLT, ↓reduceIte, reduceCtorEq, hl, e0, e1, e5, e6]
        obtain rfl := Option.some.inj wr249
        rw [KP_nil, QL_normal]
        refine ⟨_, rfl, ?_, ?_, ?_, ?_, ?_, S247⟩ <;> simp only [List.length_set, W0, Nat.reduceEqDiff, Nat.reduceLT, ↓reduceIte, hl, e0, e1, e5, e6]
    · rw [if_neg c136] at wr249
      try simp only [↓WD, W0, evalOp, Nat.reduceEqDiff, Nat.reduceLT, ↓reduceIte, reduceCtorEq, hl, e0, e1, e5, e6, e21]
      obtain rfl := Option.some.inj wr249
      rw [KP_nil, QL_exit]
      refine ⟨_, rfl, rfl, ?_, ?_, S132⟩ <;> simp only [List.length_set, W0, Nat.reduceEqDiff, Nat.reduceLT, ↓reduceIte, hl, e0, e1, e5, e6, e21]
  · refine ⟨?_, ?_, ?_, ?_, ?_, S10⟩ <;> simp only [List.length_set, W0, Nat.reduceEqDiff, Nat.reduceLT, ↓reduceIte, hl, e0, e1, e5, e6]
  · rintro x envr249 h250 ⟨rfl, hl, e5, S251⟩
    try simp only [↓WD, W0, evalOp, Nat.reduceEqDiff, Nat.reduceLT, ↓reduceIte, reduceCtorEq, hl, e5]
    rw [AW_region]
    refine AE_joinR (fun e h' => h250 = h' ∧ e.length = 67 ∧ e.getD 4 .undef = u5) (by
      simp only [↓WE, WA, WL, aop, ofValue, ofCell, isConst, abin, acall1, abuiltin, aun, AV.cells, AV.one, Nat.reduceAdd, Int.reduceLT, Int.reduceLE, ↓WD, W0, evalOp, Nat.reduceEqDiff, Nat.reduceLT, ↓reduceIte, reduceCtorEq, hl, e5]
      refine ⟨rfl, ?_, ?_⟩ <;> simp only [List.length_set, W0, Nat.reduceEqDiff, Nat.reduceLT, ↓reduceIte, hl, e5]) ?_
    rintro envg252 _ ⟨rfl, hl, e4⟩
    try simp only [↓WD, W0, evalOp, Nat.reduceEqDiff, Nat.reduceLT, ↓reduceIte, reduceCtorEq, hl, e4]
    refine KP_ret (vs := [u5]) (by simp only [aresults, aresult, gs, List.length_set, Nat.reduceEqDiff, Nat.reduceLT, ↓reduceIte, hl, e4]) ?_
    obtain rfl := Option.some.inj hF
    exact ⟨u5, rfl, S251⟩
theorem W_ref04_atMost {K : PureK} (n122 : K 122 = none) (m : Nat) (hm : NF + 1 ≤ m) (h : AH) (ua : AV) (a : List Int) (hua : RO 1 ua h (a.map (cellI .u64))) (ub : AV) (b : List Int) (hub : RO 1 ub h (b.map (cellI .u64))) {r : Bool} (hF : F_ref04_atMost a b = some r) :
    AR (acall Try.prog (hooksOf K) (drawnOf Try.prog (tabOf K)) m 122 [ua, ub] h) (fun v h' => v = .bool r ∧ Sep h [] h' []) := by
  obtain ⟨m, rfl⟩ : ∃ k, m = k + 1 := ⟨m - 1, by omega⟩
  refine AR_call (hooksOf_none n122) Try.func122 rfl _ _ fun env hl he => ?_
  have e0 := he 0
  have e1 := he 1
  simp only [List.getD_cons_zero, List.getD_cons_succ] at e0 e1
  simp only [Try.f122] at hl ⊢
  simp only [List.length_cons, List.length_nil, Nat.reduceAdd, Nat.reduceSub] at hl
  clear he
  have S0 : Sep h [] h [] := Sep.nil h
  rw [F_ref04_atMost] at hF
  try simp only [↓WD, W0, evalOp, Nat.reduceEqDiff, Nat.reduceLT, ↓reduceIte, reduceCtorEq, hl, e0, e1]
  rw [AW_region]
  refine AE_joinR (fun e h' => h = h' ∧ e.length = 39 ∧ e.getD 0 .undef = ua ∧ e.getD 1 .undef = ub) (by
    simp only [↓WE, WA, WL, aop, ofValue, ofCell, isConst, abin, acall1, abuiltin, aun, AV.cells, AV.one, Nat.reduceAdd, Int.reduceLT, Int.reduceLE, ↓WD, W0, evalOp, Nat.reduceEqDiff, Nat.reduceLT, ↓reduceIte, reduceCtorEq, hl, e0, e1]
    refine ⟨rfl, ?_, ?_, ?_⟩ <;> simp only [List.length_set, W0, Nat.reduceEqDiff, Nat.reduceLT, ↓reduceIte, hl, e0, e1]) ?_
  rintro envg1 _ ⟨rfl, hl, e0, e1⟩
  try simp only [↓WD, W0, evalOp, Nat.reduceEqDiff, Nat.reduceLT, ↓reduceIte, reduceCtorEq, hl, e0, e1]
  rw [AW_region]
  have ol2 := RO.len (P := Try.prog) sl_141 (S0.ro hua)
  rw [List.length_map] at ol2
  have ol3 := RO.len (P := Try.prog) sl_141 (S0.ro hub)
  rw [List.length_map] at ol3
  refine AE_joinR (fun e h' => h = h' ∧ e.length = 39 ∧ e.getD 0 .undef = ua ∧ e.getD 1 .undef = ub ∧ e.getD 5 .undef = .int .i64 (IntKind.i64.wrap ((a.length : Int) + (b.length : Int)))) (by
    simp only [↓WE, WA, WL, aop, ofValue, ofCell, isConst, abin, acall1, abuiltin, aun, AV.cells, AV.one, Nat.reduceAdd, Int.reduceLT, Int.reduceLE, ↓WD, W0, evalOp, Nat.reduceEqDiff, Nat.reduceLT, ↓reduceIte, reduceCtorEq, hl, e0, e1, ol2, ol3]
    refine ⟨rfl, ?_, ?_, ?_, ?_⟩ <;> simp only [List.length_set, W0, Nat.reduceEqDiff, Nat.reduceLT, ↓reduceIte, hl, e0, e1]) ?_
  rintro envg4 _ ⟨rfl, hl, e0, e1, e5⟩
  try simp only [↓WD, W0, evalOp, Nat.reduceEqDiff, Nat.reduceLT, ↓reduceIte, reduceCtorEq, hl, e0, e1, e5]
  obtain ⟨r83, qr83, hF⟩ := obind hF
  refine AW_lift (L_ref04_atMost_1 a b) (fun s e h' => e.length = 39 ∧ e.getD 0 .undef = ua ∧ e.getD 1 .undef = ub ∧ e.getD 5 .undef = .int .i64 s ∧ Sep h [] h' []) (fun r83 x e h' => (∃ (t84 : Unit), r83 = (.inl t84) ∧ x = .exit 0 ∧ e.length = 39 ∧ Sep h [] h' []) ∨ (∃ (t87 : Bool), r83 = (.inr t87) ∧ x = .ret ∧ e.length = 39 ∧ e.getD 4 .undef = .bool t87 ∧ Sep h [] h' [])) qr83 (by omega) ?_ ?_ ?_
  · rintro s envr83 h44 or83 ⟨hl, e0, e1, e5, S45⟩ wr83
    rw [L_ref04_atMost_1] at wr83
    try simp only [↓WD, W0, evalOp, Nat.reduceEqDiff, Nat.reduceLT, ↓reduceIte, reduceCtorEq, hl, e0, e1, e5]
    rw [AW_region]
    refine AE_joinR (fun e h' => h44 = h' ∧ e.length = 39 ∧ e.getD 0 .undef = ua ∧ e.getD 1 .undef = ub ∧ e.getD 5 .undef = .int .i64 s ∧ e.getD 14 .undef = .bool (decide (s ≥ 0))) (by
      simp only [↓WE, WA, WL, aop, ofValue, ofCell, isConst, abin, acall1, abuiltin, aun, AV.cells, AV.one, Nat.reduceAdd, Int.reduceLT, Int.reduceLE, ↓WD, W0, evalOp, Nat.reduceEqDiff, Nat.reduceLT, ↓reduceIte, reduceCtorEq, hl, e0, e1, e5]
      refine ⟨rfl, ?_, ?_, ?_, ?_, ?_⟩ <;> simp only [List.length_set, W0, Nat.reduceEqDiff, Nat.reduceLT, ↓reduceIte, hl, e0, e1, e5]) ?_
    rintro envg46 _ ⟨rfl, hl, e0, e1, e5, e14⟩
    try simp only [↓WD, W0, evalOp, Nat.reduceEqDiff, Nat.reduceLT, ↓reduceIte, reduceCtorEq, hl, e0, e1, e5, e14]
    refine CondK_dec (fun c48 => ?_) (fun c48 => ?_)
    · rw [if_pos c48] at wr83
      try simp only [↓WD, W0, evalOp, Nat.reduceEqDiff, Nat.reduceLT, ↓reduceIte, reduceCtorEq, hl, e0, e1, e5, e14]
      rw [AW_region]
      refine AE_joinR (fun e h' => h44 = h' ∧ e.length = 39 ∧ e.getD 0 .undef = ua ∧ e.getD 1 .undef = ub ∧ e.getD 5 .undef = .int .i64 s ∧ e.getD 6 .undef = .int .u64 0) (by
        simp only [↓WE, WA, WL, aop, ofValue, ofCell, isConst, abin, acall1, abuiltin, aun, AV.cells, AV.one, Nat.reduceAdd, Int.reduceLT, Int.reduceLE, ↓WD, W0, evalOp, Nat.reduceEqDiff, Nat.reduceLT, ↓reduceIte, reduceCtorEq, hl, e0, e1, e5, e14]
        refine ⟨rfl, ?_, ?_, ?_, ?_, ?_⟩ <;> simp only [List.length_set, W0, Nat.reduceEqDiff, Nat.reduceLT, ↓reduceIte, hl, e0, e1, e5, e14]) ?_
      rintro envg49 _ ⟨rfl, hl, e0, e1, e5, e6⟩
      try simp only [↓WD, W0, evalOp, Nat.reduceEqDiff, Nat.reduceLT, ↓reduceIte, reduceCtorEq, hl, e0, e1, e5, e6]
      rw [AW_region]
      refine AE_joinR (fun e h' => h44 = h' ∧ e.length = 39 ∧ e.getD 0 .undef = ua ∧ e.getD 1 .undef = ub ∧ e.getD 5 .undef = .int .i64 s ∧ e.getD 6 .undef = .int .u64 0 ∧ e.getD 7 .undef = .int .u64 0) (by
        simp only [↓WE, WA, WL, aop, ofValue, ofCell, isConst, abin, acall1, abuiltin, aun, AV.cells, AV.one, Nat.reduceAdd, Int.reduceLT, Int.reduceLE, ↓WD, W0, evalOp, Nat.reduceEqDiff, Nat.reduceLT, ↓reduceIte, reduceCtorEq, hl, e0, e1, e5, e6]
        refine ⟨rfl, ?_, ?_, ?_, ?_, ?_, ?_⟩ <;> simp only [List.length_set, W0, Nat.reduceEqDiff, Nat.reduceLT, ↓reduceIte, hl, e0, e1, e5, e6]) ?_
      rintro envg50 _ ⟨rfl, hl, e0, e1, e5, e6, e7⟩
      try simp only [↓WD, W0, evalOp, Nat.reduceEqDiff, Nat.reduceLT, ↓reduceIte, reduceCtorEq, hl, e0, e1, e5, e6, e7]
      rw [AW_region]
      have ol51 := RO.len (P := Try.prog) sl_141 (S45.ro hua)
      rw [List.length_map] at ol51
      refine AE_joinR (fun e h' => h44 = h' ∧ e.length = 39 ∧ e.getD 0 .undef = ua ∧ e.getD 1 .undef = ub ∧ e.getD 5 .undef = .int .i64 s ∧ e.getD 6 .undef = .int .u64 0 ∧ e.getD 7 .undef = .int .u64 0 ∧ e.getD 20 .undef = .bool (decide (s < (a.length : Int)))) (by
        simp only [↓WE, WA, WL, aop, ofValue, ofCell, isConst, abin, acall1, abuiltin, aun, AV.cells, AV.one, Nat.reduceAdd, Int.reduceLT, Int.reduceLE, ↓WD, W0, evalOp, Nat.reduceEqDiff, Nat.reduceLT, ↓reduceIte, reduceCtorEq, hl, e0, e1, e5, e6, e7, ol51]
        refine ⟨rfl, ?_, ?_, ?_, ?_, ?_, ?_, ?_⟩ <;> simp only [List.length_set, W0, Nat.reduceEqDiff, Nat.reduceLT, ↓reduceIte, hl, e0, e1, e5, e6, e7]) ?_
      rintro envg52 _ ⟨rfl, hl, e0, e1, e5, e6, e7, e20⟩
      try simp only [↓WD, W0, evalOp, Nat.reduceEqDiff, Nat.reduceLT, ↓reduceIte, reduceCtorEq, hl, e0, e1, e5, e6, e7, e20]
      obtain ⟨j61, qj61, wr83⟩ := obind wr83
      refine CondK_join (fun e h' => e.length = 39 ∧ e.getD 0 .undef = ua ∧ e.getD 1 .undef = ub ∧ e.getD 5 .undef = .int .i64 s ∧ e.getD 6 .undef = .int .u64 j61 ∧ e.getD 7 .undef = .int .u64 0 ∧ Sep h [] h' []) ?_ ?_
      · refine CondK_dec (fun c53 => ?_) (fun c53 => ?_)
        · rw [if_pos c53] at qj61
          try simp only [↓WD, W0, evalOp, Nat.reduceEqDiff, Nat.reduceLT, ↓reduceIte, reduceCtorEq, hl, e0, e1, e5, e6, e7, e20]
          rw [AW_region]
          obtain ⟨x54, qx54, qj61⟩ := obind qj61
          obtain ⟨i55, off56, oi57, hp58⟩ := RO.addr (P := Try.prog) sl_141 (S45.ro hua) qx54
          have ol59 := RO.ld (P := Try.prog) (S45.ro hua) hp58 qx54 (t := 24) (o := 0) (v := .int .u64 x54) (by omega) (by simp only [apart, ag_24, sz_24]; rfl)
          simp only [Nat.add_zero] at ol59
          refine AE_joinR (fun e h' => h44 = h' ∧ e.length = 39 ∧ e.getD 0 .undef = ua ∧ e.getD 1 .undef = ub ∧ e.getD 5 .undef = .int .i64 s ∧ e.getD 6 .undef = .int .u64 x54 ∧ e.getD 7 .undef = .int .u64 0) (by
            simp only [↓WE, WA, WL, aop, ofValue, ofCell, isConst, abin, acall1, abuiltin, aun, AV.cells, AV.one, Nat.reduceAdd, Int.reduceLT, Int.reduceLE, ↓WD, W0, evalOp, Nat.reduceEqDiff, Nat.reduceLT, ↓reduceIte, reduceCtorEq, hl, e0, e1, e5, e6, e7, e20, oi57, ol59]
            refine ⟨rfl, ?_, ?_, ?_, ?_, ?_, ?_⟩ <;> simp only [List.length_set, W0, Nat.reduceEqDiff, Nat.reduceLT, ↓reduceIte, hl, e0, e1, e5, e6, e7, e20]) ?_
          rintro envg60 _ ⟨rfl, hl, e0, e1, e5, e6, e7⟩
          try simp only [↓WD, W0, evalOp, Nat.reduceEqDiff, Nat.reduceLT, ↓reduceIte, reduceCtorEq, hl, e0, e1, e5, e6, e7]
          rw [KP_nil, KJ_normal]
          obtain rfl := Option.some.inj qj61
          refine ⟨?_, ?_, ?_, ?_, ?_, ?_, S45⟩ <;> simp only [List.length_set, W0, Nat.reduceEqDiff, Nat.reduceLT, ↓reduceIte, hl, e0, e1, e5, e6, e7]
        · rw [if_neg c53] at qj61
          try simp only [↓WD, W0, evalOp, Nat.reduceEqDiff, Nat.reduceLT, ↓reduceIte, reduceCtorEq, hl, e0, e1, e5, e6, e7, e20]
          rw [KP_nil, KJ_normal]
          obtain rfl := Option.some.inj qj61
          refine ⟨?_, ?_, ?_, ?_, ?_, ?_, S45⟩ <;> simp only [List.length_set, W0, Nat.reduceEqDiff, Nat.reduceLT, ↓reduceIte, hl, e0, e1, e5, e6, e7, e20]
      · rintro envj61 h63 ⟨hl, e0, e1, e5, e6, e7, S62⟩
        try simp only [↓WD, W0, evalOp, Nat.reduceEqDiff, Nat.reduceLT, ↓reduceIte, reduceCtorEq, hl, e0, e1, e5, e6, e7]
        rw [AW_region]
        have ol64 := RO.len (P := Try.prog) sl_141 (S62.ro hub)
        rw [List.length_map] at ol64
        refine AE_joinR (fun e h' => h63 = h' ∧ e.length = 39 ∧ e.getD 0 .undef = ua ∧ e.getD 1 .undef = ub ∧ e.getD 5 .undef = .int .i64 s ∧ e.getD 6 .undef = .int .u64 j61 ∧ e.getD 7 .undef = .int .u64 0 ∧ e.getD 28 .undef = .bool (decide (s < (b.length : Int)))) (by
          simp only [↓WE, WA, WL, aop, ofValue, ofCell, isConst, abin, acall1, abuiltin, aun, AV.cells, AV.one, Nat.reduceAdd, Int.reduceLT, Int.reduceLE, ↓WD, W0, evalOp, Nat.reduceEqDiff, Nat.reduceLT, ↓reduceIte, reduceCtorEq, hl, e0, e1, e5, e6, e7, ol64]
          refine ⟨rfl, ?_, ?_, ?_, ?_, ?_, ?_, ?_⟩ <;> simp only [List.length_set, W0, Nat.reduceEqDiff, Nat.reduceLT, ↓reduceIte, hl, e0, e1, e5, e6, e7]) ?_
        rintro envg65 _ ⟨rfl, hl, e0, e1, e5, e6, e7, e28⟩
        try simp only [↓WD, W0, evalOp, Nat.reduceEqDiff, Nat.reduceLT, ↓reduceIte, reduceCtorEq, hl, e0, e1, e5, e6, e7, e28]
        obtain ⟨j74, qj74, wr83⟩ := obind wr83
        refine CondK_join (fun e h' => e.length = 39 ∧ e.getD 0 .undef = ua ∧ e.getD 1 .undef = ub ∧ e.getD 5 .undef = .int .i64 s ∧ e.getD 6 .undef = .int .u64 j61 ∧ e.getD 7 .undef = .int .u64 j74 ∧ Sep h [] h' []) ?_ ?_
        · refine CondK_dec (fun c66 => ?_) (fun c66 => ?_)
          · rw [if_pos c66] at qj74
            try simp only [↓WD, W0, evalOp, Nat.reduceEqDiff, Nat.reduceLT, ↓reduceIte, reduceCtorEq, hl, e0, e1, e5, e6, e7, e28]
            rw [AW_region]
            obtain ⟨x67, qx67, qj74⟩ := obind qj74
            obtain ⟨i68, off69, oi70, hp71⟩ := RO.addr (P := Try.prog) sl_141 (S62.ro hub) qx67
            have ol72 := RO.ld (P := Try.prog) (S62.ro hub) hp71 qx67 (t := 24) (o := 0) (v := .int .u64 x67) (by omega) (by simp only [apart, ag_24, sz_24]; rfl)
            simp only [Nat.add_zero] at ol72
            refine AE_joinR (fun e h' => h63 = h' ∧ e.length = 39 ∧ e.getD 0 .undef = ua ∧ e.getD 1 .undef = ub ∧ e.getD 5 .undef = .int .i64 s ∧ e.getD 6 .undef = .int .u64 j61 ∧ e.getD 7 .undef = .int .u64 x67) (by
              simp only [↓WE, WA, WL, aop, ofValue, ofCell, isConst, abin, acall1, abuiltin, aun, AV.cells, AV.one, Nat.reduceAdd, Int.reduceLT, Int.reduceLE, ↓WD, W0, evalOp, Nat.reduceEqDiff, Nat.reduceLT, ↓reduceIte, reduceCtorEq, hl, e0, e1, e5, e6, e7, e28, oi70, ol72]
              refine ⟨rfl, ?_, ?_, ?_, ?_, ?_, ?_⟩ <;> simp only [List.length_set, W0, Nat.reduceEqDiff, Nat.reduceLT, ↓reduceIte, hl, e0, e1, e5, e6, e7, e28]) ?_
            rintro envg73 _ ⟨rfl, hl, e0, e1, e5, e6, e7⟩
            try simp only [↓WD, W0, evalOp, Nat.reduceEqDiff, Nat.reduceLT, ↓reduceIte, reduceCtorEq, hl, e0, e1, e5, e6, e7]
            rw [KP_nil, KJ_normal]
            obtain rfl := Option.some.inj qj74
            refine ⟨?_, ?_, ?_, ?_, ?_, ?_, S62⟩ <;> simp only [List.length_set, W0, Nat.reduceEqDiff, Nat.reduceLT, ↓reduceIte, hl, e0, e1, e5, e6, e7]
          · rw [if_neg c66] at qj74
            try simp only [↓WD, W0, evalOp, Nat.reduceEqDiff, Nat.reduceLT, ↓reduceIte, reduceCtorEq, hl, e0, e1, e5, e6, e7, e28]
            rw [KP_nil, KJ_normal]
            obtain rfl := Option.some.inj qj74
            refine ⟨?_, ?_, ?_, ?_, ?_, ?_, S62⟩ <;> simp only [List.length_set, W0, Nat.reduceEqDiff, Nat.reduceLT, ↓reduceIte, hl, e0, e1, e5, e6, e7, e28]
        · rintro envj74 h76 ⟨hl, e0, e1, e5, e6, e7, S75⟩
          try simp only [↓WD, W0, evalOp, Nat.reduceEqDiff, Nat.reduceLT, ↓reduceIte, reduceCtorEq, hl, e0, e1, e5, e6, e7]
          rw [AW_region]
          refine AE_joinR (fun e h' => h76 = h' ∧ e.length = 39 ∧ e.getD 0 .undef = ua ∧ e.getD 1 .undef = ub ∧ e.getD 5 .undef = .int .i64 s ∧ e.getD 6 .undef = .int .u64 j61 ∧ e.getD 7 .undef = .int .u64 j74 ∧ e.getD 35 .undef = .bool (j61 != j74)) (by
            simp only [↓WE, WA, WL, aop, ofValue, ofCell, isConst, abin, acall1, abuiltin, aun, AV.cells, AV.one, Nat.reduceAdd, Int.reduceLT, Int.reduceLE, ↓WD, W0, evalOp, Nat.reduceEqDiff, Nat.reduceLT, ↓reduceIte, reduceCtorEq, hl, e0, e1, e5, e6, e7]
            refine ⟨rfl, ?_, ?_, ?_, ?_, ?_, ?_, ?_⟩ <;> simp only [List.length_set, W0, Nat.reduceEqDiff, Nat.reduceLT, ↓reduceIte, hl, e0, e1, e5, e6, e7]) ?_
          rintro envg77 _ ⟨rfl, hl, e0, e1, e5, e6, e7, e35⟩
          try simp only [↓WD, W0, evalOp, Nat.reduceEqDiff, Nat.reduceLT, ↓reduceIte, reduceCtorEq, hl, e0, e1, e5, e6, e7, e35]
          refine CondK_boo (fun c80 => ?_) (fun c80 => ?_)
          · rw [if_pos c80] at wr83
            try simp only [↓WD, W0, evalOp, Nat.reduceEqDiff, Nat.reduceLT, ↓reduceIte, reduceCtorEq, hl, e0, e1, e5, e6, e7, e35]
            rw [AW_region]
            refine AE_joinR (fun e h' => h76 = h' ∧ e.length = 39 ∧ e.getD 4 .undef = .bool (decide (j61 < j74))) (by
              simp only [↓WE, WA, WL, aop, ofValue, ofCell, isConst, abin, acall1, abuiltin, aun, AV.cells, AV.one, Nat.reduceAdd, Int.reduceLT, Int.reduceLE, ↓WD, W0, evalOp, Nat.reduceEqDiff, Nat.reduceLT, ↓reduceIte, reduceCtorEq, hl, e0, e1, e5, e6, e7, e35]
              refine ⟨rfl, ?_, ?_⟩ <;> simp only [List.length_set, W0, Nat.reduceEqDiff, Nat.reduceLT, ↓reduceIte, hl, e0, e1, e5, e6, e7, e35]) ?_
            rintro envg81 _ ⟨rfl, hl, e4⟩
            try simp only [↓WD, W0, evalOp, Nat.reduceEqDiff, Nat.reduceLT, ↓reduceIte, reduceCtorEq, hl, e4]
            obtain rfl := Option.some.inj wr83
            rw [KP_nil, QL_ret]
            refine ⟨_, rfl, .inr (⟨_, rfl, rfl, ?_, ?_, S75⟩)⟩ <;> simp only [List.length_set, W0, Nat.reduceEqDiff, Nat.reduceLT, ↓reduceIte, hl, e4]
          · rw [if_neg (nf c80)] at wr83
            try simp only [↓WD, W0, evalOp, Nat.reduceEqDiff, Nat.reduceLT, ↓reduceIte, reduceCtorEq, hl, e0, e1, e5, e6, e7, e35]
            rw [AW_region]
            refine AE_joinR (fun e h' => h76 = h' ∧ e.length = 39 ∧ e.getD 0 .undef = ua ∧ e.getD 1 .undef = ub ∧ e.getD 5 .undef = .int .i64 (IntKind.i64.wrap (s - 1))) (by
              simp only [↓WE, WA, WL, aop, ofValue, ofCell, isConst, abin, acall1, abuiltin, aun, AV.cells, AV.one, Nat.reduceAdd, Int.reduceLT, Int.reduceLE, ↓WD, W0, evalOp, Nat.reduceEqDiff, Nat.reduceLT, ↓reduceIte, reduceCtorEq, hl, e0, e1, e5, e6, e7, e35]
              refine ⟨rfl, ?_, ?_, ?_, ?_⟩ <;> simp only [List.length_set, W0, Nat.reduceEqDiff, Nat.reduceLT, ↓reduceIte, hl, e0, e1, e5, e6, e7, e35]) ?_
            rintro envg82 _ ⟨rfl, hl, e0, e1, e5⟩
            try simp only [↓WD, W0, evalOp, Nat.reduceEqDiff, Nat.reduceLT, ↓reduceIte, reduceCtorEq, hl, e0, e1, e5]
            obtain rfl := Option.some.inj wr83
            rw [KP_nil, QL_normal]
            refine ⟨_, rfl, ?_, ?_, ?_, ?_, S75⟩ <;> simp only [List.length_set, W0, Nat.reduceEqDiff, Nat.reduceLT, ↓reduceIte, hl, e0, e1, e5]
    · rw [if_neg c48] at wr83
      try simp only [↓WD, W0, evalOp, Nat.reduceEqDiff, Nat.reduceLT, ↓reduceIte, reduceCtorEq, hl, e0, e1, e5, e14]
      obtain rfl := Option.some.inj wr83
      rw [KP_nil, QL_exit]
      exact ⟨_, rfl, .inl ⟨_, rfl, rfl, (by simp only [List.length_set, hl]), S45⟩⟩
  · refine ⟨?_, ?_, ?_, ?_, S0⟩ <;> simp only [List.length_set, W0, Nat.reduceEqDiff, Nat.reduceLT, ↓reduceIte, hl, e0, e1, e5]
  · intro x envr83 h85 hk
    rcases hk with ⟨t84, rfl, rfl, hl, S86⟩ | ⟨t87, rfl, rfl, hl, e4, S89⟩
    · skip
      rw [sumK_inl] at hF
      try simp only [↓WD, W0, evalOp, Nat.reduceEqDiff, Nat.reduceLT, ↓reduceIte, reduceCtorEq, hl]
      rw [AW_region]
      refine AE_joinR (fun e h' => h85 = h' ∧ e.length = 39 ∧ e.getD 4 .undef = .bool true) (by
        simp only [↓WE, WA, WL, aop, ofValue, ofCell, isConst, abin, acall1, abuiltin, aun, AV.cells, AV.one, Nat.reduceAdd, Int.reduceLT, Int.reduceLE, ↓WD, W0, evalOp, Nat.reduceEqDiff, Nat.reduceLT, ↓reduceIte, reduceCtorEq, hl]
        refine ⟨rfl, ?_, ?_⟩ <;> simp only [List.length_set, W0, Nat.reduceEqDiff, Nat.reduceLT, ↓reduceIte, hl]) ?_
      rintro envg90 _ ⟨rfl, hl, e4⟩
      try simp only [↓WD, W0, evalOp, Nat.reduceEqDiff, Nat.reduceLT, ↓reduceIte, reduceCtorEq, hl, e4]
      refine KP_ret (vs := [.bool true]) (by simp only [aresults, aresult, gs, List.length_set, Nat.reduceEqDiff, Nat.reduceLT, ↓reduceIte, hl, e4]) ?_
      obtain rfl := Option.some.inj hF
      exact ⟨rfl, S86⟩
    · skip
      rw [sumK_inr] at hF
      try simp only [↓WD, W0, evalOp, Nat.reduceEqDiff, Nat.reduceLT, ↓reduceIte, reduceCtorEq, hl, e4]
      refine KP_ret (vs := [.bool t87]) (by simp only [aresults, aresult, gs, List.length_set, Nat.reduceEqDiff, Nat.reduceLT, ↓reduceIte, hl, e4]) ?_
      obtain rfl := Option.some.inj hF
      exact ⟨rfl, S89⟩
theorem W_ref04_root {K : PureK} (n120 : K 120 = none) (n121 : K 121 = none) (n122 : K 122 = none) (n98 : K 98 = none) (m : Nat) (hm : NF + 2 ≤ m) (h : AH) (p : Int) (power : Int) {r : Int} (hF : F_ref04_root p power = some r) :
    AR (acall Try.prog (hooksOf K) (drawnOf Try.prog (tabOf K)) m 98 [.int .u64 p, .int .i64 power] h) (fun v h' => v = .int .u32 r) := by
  obtain ⟨m, rfl⟩ : ∃ k, m = k + 1 := ⟨m - 1, by omega⟩
  refine AR_call (hooksOf_none n98) Try.func98 rfl _ _ fun env hl he => ?_
  have e0 := he 0
  have e1 := he 1
  simp only [List.getD_cons_zero, List.getD_cons_succ] at e0 e1
  simp only [Try.f98] at hl ⊢
  simp only [List.length_cons, List.length_nil, Nat.reduceAdd, Nat.reduceSub] at hl
  clear he
  have S0 : Sep h [] h [] := Sep.nil h
  rw [F_ref04_root] at hF
  try simp only [↓WD, W0, evalOp, Nat.reduceEqDiff, Nat.reduceLT, ↓reduceIte, reduceCtorEq, hl, e0, e1]
  rw [AW_region]
  refine AE_joinR (fun e h' => h = h' ∧ e.length = 48 ∧ e.getD 0 .undef = .int .u64 p ∧ e.getD 1 .undef = .int .i64 power) (by
    simp only [↓WE, WA, WL, aop, ofValue, ofCell, isConst, abin, acall1, abuiltin, aun, AV.cells, AV.one, Nat.reduceAdd, Int.reduceLT, Int.reduceLE, ↓WD, W0, evalOp, Nat.reduceEqDiff, Nat.reduceLT, ↓reduceIte, reduceCtorEq, hl, e0, e1]
    refine ⟨rfl, ?_, ?_, ?_⟩ <;> simp only [List.length_set, W0, Nat.reduceEqDiff, Nat.reduceLT, ↓reduceIte, hl, e0, e1]) ?_
  rintro envg1 _ ⟨rfl, hl, e0, e1⟩
  try simp only [↓WD, W0, evalOp, Nat.reduceEqDiff, Nat.reduceLT, ↓reduceIte, reduceCtorEq, hl, e0, e1]
  rw [AW_region]
  refine AE_joinR (fun e h' => h = h' ∧ e.length = 48 ∧ e.getD 0 .undef = .int .u64 p ∧ e.getD 1 .undef = .int .i64 power ∧ e.getD 5 .undef = .int .u64 0) (by
    simp only [↓WE, WA, WL, aop, ofValue, ofCell, isConst, abin, acall1, abuiltin, aun, AV.cells, AV.one, Nat.reduceAdd, Int.reduceLT, Int.reduceLE, ↓WD, W0, evalOp, Nat.reduceEqDiff, Nat.reduceLT, ↓reduceIte, reduceCtorEq, hl, e0, e1]
    refine ⟨rfl, ?_, ?_, ?_, ?_⟩ <;> simp only [List.length_set, W0, Nat.reduceEqDiff, Nat.reduceLT, ↓reduceIte, hl, e0, e1]) ?_
  rintro envg2 _ ⟨rfl, hl, e0, e1, e5⟩
  try simp only [↓WD, W0, evalOp, Nat.reduceEqDiff, Nat.reduceLT, ↓reduceIte, reduceCtorEq, hl, e0, e1, e5]
  rw [AW_region]
  obtain ⟨y3, qy3, hF⟩ := obind hF
  obtain ⟨u7, h5, og4, _, rfl, S6⟩ := (W_ref04_digits n120 m (by omega) h p qy3).out
  have S10 : Sep h [] h5 [.row u7 24 1 (y3.map (cellI .u64))] := S0.call0 S6
  refine AE_joinR (fun e h' => h5 = h' ∧ e.length = 48 ∧ e.getD 1 .undef = .int .i64 power ∧ e.getD 5 .undef = .int .u64 0 ∧ e.getD 6 .undef = u7) (by
    simp only [↓WE, WA, WL, aop, ofValue, ofCell, isConst, abin, acall1, abuiltin, aun, AV.cells, AV.one, Nat.reduceAdd, Int.reduceLT, Int.reduceLE, ↓WD, W0, evalOp, Nat.reduceEqDiff, Nat.reduceLT, ↓reduceIte, reduceCtorEq, hl, e0, e1, e5, og4]
    refine ⟨rfl, ?_, ?_, ?_, ?_⟩ <;> simp only [List.length_set, W0, Nat.reduceEqDiff, Nat.reduceLT, ↓reduceIte, hl, e0, e1, e5]) ?_
  rintro envg11 _ ⟨rfl, hl, e1, e5, e6⟩
  try simp only [↓WD, W0, evalOp, Nat.reduceEqDiff, Nat.reduceLT, ↓reduceIte, reduceCtorEq, hl, e1, e5, e6]
  rw [AW_region]
  refine AE_joinR (fun e h' => h5 = h' ∧ e.length = 48 ∧ e.getD 1 .undef = .int .i64 power ∧ e.getD 5 .undef = .int .u64 0 ∧ e.getD 6 .undef = u7 ∧ e.getD 7 .undef = .int .i64 0) (by
    simp only [↓WE, WA, WL, aop, ofValue, ofCell, isConst, abin, acall1, abuiltin, aun, AV.cells, AV.one, Nat.reduceAdd, Int.reduceLT, Int.reduceLE, ↓WD, W0, evalOp, Nat.reduceEqDiff, Nat.reduceLT, ↓reduceIte, reduceCtorEq, hl, e1, e5, e6]
    refine ⟨rfl, ?_, ?_, ?_, ?_, ?_⟩ <;> simp only [List.length_set, W0, Nat.reduceEqDiff, Nat.reduceLT, ↓reduceIte, hl, e1, e5, e6]) ?_
  rintro envg12 _ ⟨rfl, hl, e1, e5, e6, e7⟩
  try simp only [↓WD, W0, evalOp, Nat.reduceEqDiff, Nat.reduceLT, ↓reduceIte, reduceCtorEq, hl, e1, e5, e6, e7]
  obtain ⟨r61, qr61, hF⟩ := obind hF
  refine AW_lift (L_ref04_root_1 power) (fun s e h' => ∃ (u37 : AV), e.length = 48 ∧ e.getD 1 .undef = .int .i64 power ∧ e.getD 5 .undef = .int .u64 0 ∧ e.getD 6 .undef = u37 ∧ e.getD 7 .undef = .int .i64 s.2 ∧ Sep h [] h' [.row u37 24 1 (s.1.map (cellI .u64))]) (fun r61 x e h' => ∃ (u62 : AV), x = .exit 0 ∧ e.length = 48 ∧ e.getD 1 .undef = .int .i64 power ∧ e.getD 5 .undef = .int .u64 0 ∧ e.getD 6 .undef = u62 ∧ Sep h [] h' [.row u62 24 1 (r61.map (cellI .u64))]) qr61 (by omega) ?_ ?_ ?_
  · rintro s envr61 h38 or61 ⟨u37, hl, e1, e5, e6, e7, S39⟩ wr61
    rw [L_ref04_root_1] at wr61
    try simp only [↓WD, W0, evalOp, Nat.reduceEqDiff, Nat.reduceLT, ↓reduceIte, reduceCtorEq, hl, e1, e5, e6, e7]
    rw [AW_region]
    refine AE_joinR (fun e h' => h38 = h' ∧ e.length = 48 ∧ e.getD 1 .undef = .int .i64 power ∧ e.getD 5 .undef = .int .u64 0 ∧ e.getD 6 .undef = u37 ∧ e.getD 7 .undef = .int .i64 s.2 ∧ e.getD 17 .undef = .bool (decide (s.2 < power))) (by
      simp only [↓WE, WA, WL, aop, ofValue, ofCell, isConst, abin, acall1, abuiltin, aun, AV.cells, AV.one, Nat.reduceAdd, Int.reduceLT, Int.reduceLE, ↓WD, W0, evalOp, Nat.reduceEqDiff, Nat.reduceLT, ↓reduceIte, reduceCtorEq, hl, e1, e5, e6, e7]
      refine ⟨rfl, ?_, ?_, ?_, ?_, ?_, ?_⟩ <;> simp only [List.length_set, W0, Nat.reduceEqDiff, Nat.reduceLT, ↓reduceIte, hl, e1, e5, e6, e7]) ?_
    rintro envg40 _ ⟨rfl, hl, e1, e5, e6, e7, e17⟩
    try simp only [↓WD, W0, evalOp, Nat.reduceEqDiff, Nat.reduceLT, ↓reduceIte, reduceCtorEq, hl, e1, e5, e6, e7, e17]
    refine CondK_dec (fun c42 => ?_) (fun c42 => ?_)
    · rw [if_pos c42] at wr61
      try simp only [↓WD, W0, evalOp, Nat.reduceEqDiff, Nat.reduceLT, ↓reduceIte, reduceCtorEq, hl, e1, e5, e6, e7, e17]
      rw [AW_region]
      obtain ⟨u43, h44, ob45, S46⟩ := Sep.build (P := Try.prog) sl_141 S39 [.int .u64 0, .int .u64 0, .int .u64 1] (([0, 0, 1] : List Int).map (cellI .u64)) rfl (by simp [cellI]) (by simp)
      have ob45 : abuildSlice Try.prog 141 3 [(0, .int .u64 0), (1, .int .u64 0), (2, .int .u64 1)] h38 = some (u43, h44) := ob45
      have S48 : Sep h [] h44 [.row u37 24 1 (s.1.map (cellI .u64)), .row u43 24 1 (([0, 0, 1] : List Int).map (cellI .u64))] := S46
      obtain ⟨y49, qy49, wr61⟩ := obind wr61
      obtain ⟨u53, h51, og50, _, rfl, S52⟩ := (W_ref04_times n121 m (by omega) h44 u37 s.1 (S48.row_ro (i := 0) rfl) u43 ([0, 0, 1] : List Int) (S48.row_ro (i := 1) rfl) qy49).out
      have S56 : Sep h [] h51 [.row u37 24 1 (s.1.map (cellI .u64)), .row u43 24 1 (([0, 0, 1] : List Int).map (cellI .u64)), .row u53 24 1 (y49.map (cellI .u64))] := S48.call0 S52
      refine AE_joinR (fun e h' => h51 = h' ∧ e.length = 48 ∧ e.getD 1 .undef = .int .i64 power ∧ e.getD 5 .undef = .int .u64 0 ∧ e.getD 6 .undef = u53 ∧ e.getD 7 .undef = .int .i64 s.2) (by
        simp only [↓WE, WA, WL, aop, ofValue, ofCell, isConst, abin, acall1, abuiltin, aun, AV.cells, AV.one, Nat.reduceAdd, Int.reduceLT, Int.reduceLE, ↓WD, W0, evalOp, Nat.reduceEqDiff, Nat.reduceLT, ↓reduceIte, reduceCtorEq, hl, e1, e5, e6, e7, e17, ob45, og50]
        refine ⟨rfl, ?_, ?_, ?_, ?_, ?_⟩ <;> simp only [List.length_set, W0, Nat.reduceEqDiff, Nat.reduceLT, ↓reduceIte, hl, e1, e5, e6, e7, e17]) ?_
      rintro envg57 _ ⟨rfl, hl, e1, e5, e6, e7⟩
      try simp only [↓WD, W0, evalOp, Nat.reduceEqDiff, Nat.reduceLT, ↓reduceIte, reduceCtorEq, hl, e1, e5, e6, e7]
      rw [AW_region]
      refine AE_joinR (fun e h' => h51 = h' ∧ e.length = 48 ∧ e.getD 1 .undef = .int .i64 power ∧ e.getD 5 .undef = .int .u64 0 ∧ e.getD 6 .undef = u53 ∧ e.getD 7 .undef = .int .i64 (IntKind.i64.wrap (s.2 + 1))) (by
        simp only [↓WE, WA, WL, aop, ofValue, ofCell, isConst, abin, acall1, abuiltin, aun, AV.cells, AV.one, Nat.reduceAdd, Int.reduceLT, Int.reduceLE, ↓WD, W0, evalOp, Nat.reduceEqDiff, Nat.reduceLT, ↓reduceIte, reduceCtorEq, hl, e1, e5, e6, e7]
        refine ⟨rfl, ?_, ?_, ?_, ?_, ?_⟩ <;> simp only [List.length_set, W0, Nat.reduceEqDiff, Nat.reduceLT, ↓reduceIte, hl, e1, e5, e6, e7]) ?_
      rintro envg58 _ ⟨rfl, hl, e1, e5, e6, e7⟩
      try simp only [↓WD, W0, evalOp, Nat.reduceEqDiff, Nat.reduceLT, ↓reduceIte, reduceCtorEq, hl, e1, e5, e6, e7]
      obtain rfl := Option.some.inj wr61
      rw [KP_nil, QL_normal]
      refine ⟨_, rfl, u53, ?_, ?_, ?_, ?_, ?_, S56.pick [2] (by decide) rfl⟩ <;> simp only [List.length_set, W0, Nat.reduceEqDiff, Nat.reduceLT, ↓reduceIte, hl, e1, e5, e6, e7]
    · rw [if_neg c42] at wr61
      try simp only [↓WD, W0, evalOp, Nat.reduceEqDiff, Nat.reduceLT, ↓reduceIte, reduceCtorEq, hl, e1, e5, e6, e7, e17]
      obtain rfl := Option.some.inj wr61
      rw [KP_nil, QL_exit]
      refine ⟨_, rfl, u37, rfl, ?_, ?_, ?_, ?_, S39⟩ <;> simp only [List.length_set, W0, Nat.reduceEqDiff, Nat.reduceLT, ↓reduceIte, hl, e1, e5, e6, e7, e17]
  · refine ⟨u7, ?_, ?_, ?_, ?_, ?_, S10⟩ <;> simp only [List.length_set, W0, Nat.reduceEqDiff, Nat.reduceLT, ↓reduceIte, hl, e1, e5, e6, e7]
  · rintro x envr61 h63 ⟨u62, rfl, hl, e1, e5, e6, S64⟩
    try simp only [↓WD, W0, evalOp, Nat.reduceEqDiff, Nat.reduceLT, ↓reduceIte, reduceCtorEq, hl, e1, e5, e6]
    rw [AW_region]
    refine AE_joinR (fun e h' => h63 = h' ∧ e.length = 48 ∧ e.getD 1 .undef = .int .i64 power ∧ e.getD 5 .undef = .int .u64 0 ∧ e.getD 6 .undef = u62 ∧ e.getD 8 .undef = .int .i64 36) (by
      simp only [↓WE, WA, WL, aop, ofValue, ofCell, isConst, abin, acall1, abuiltin, aun, AV.cells, AV.one, Nat.reduceAdd, Int.reduceLT, Int.reduceLE, ↓WD, W0, evalOp, Nat.reduceEqDiff, Nat.reduceLT, ↓reduceIte, reduceCtorEq, hl, e1, e5, e6]
      refine ⟨rfl, ?_, ?_, ?_, ?_, ?_⟩ <;> simp only [List.length_set, W0, Nat.reduceEqDiff, Nat.reduceLT, ↓reduceIte, hl, e1, e5, e6]) ?_
    rintro envg65 _ ⟨rfl, hl, e1, e5, e6, e8⟩
    try simp only [↓WD, W0, evalOp, Nat.reduceEqDiff, Nat.reduceLT, ↓reduceIte, reduceCtorEq, hl, e1, e5, e6, e8]
    obtain ⟨r234, qr234, hF⟩ := obind hF
    refine AW_lift (L_ref04_root_2 power r61) (fun s e h' => e.length = 48 ∧ e.getD 1 .undef = .int .i64 power ∧ e.getD 5 .undef = .int .u64 s.1 ∧ e.getD 6 .undef = u62 ∧ e.getD 8 .undef = .int .i64 s.2 ∧ Sep h [] h' [.row u62 24 1 (r61.map (cellI .u64))]) (fun r234 x e h' => x = .exit 2 ∧ e.length = 48 ∧ e.getD 5 .undef = .int .u64 r234 ∧ Sep h [] h' []) qr234 (by omega) ?_ ?_ ?_
    · rintro s envr234 h150 or234 ⟨hl, e1, e5, e6, e8, S151⟩ wr234
      rw [L_ref04_root_2] at wr234
      try simp only [↓WD, W0, evalOp, Nat.reduceEqDiff, Nat.reduceLT, ↓reduceIte, reduceCtorEq, hl, e1, e5, e6, e8]
      rw [AW_region]
      refine AE_joinR (fun e h' => h150 = h' ∧ e.length = 48 ∧ e.getD 1 .undef = .int .i64 power ∧ e.getD 5 .undef = .int .u64 s.1 ∧ e.getD 6 .undef = u62 ∧ e.getD 8 .undef = .int .i64 s.2 ∧ e.getD 24 .undef = .bool (decide (s.2 ≥ 0))) (by
        simp only [↓WE, WA, WL, aop, ofValue, ofCell, isConst, abin, acall1, abuiltin, aun, AV.cells, AV.one, Nat.reduceAdd, Int.reduceLT, Int.reduceLE, ↓WD, W0, evalOp, Nat.reduceEqDiff, Nat.reduceLT, ↓reduceIte, reduceCtorEq, hl, e1, e5, e6, e8]
        refine ⟨rfl, ?_, ?_, ?_, ?_, ?_, ?_⟩ <;> simp only [List.length_set, W0, Nat.reduceEqDiff, Nat.reduceLT, ↓reduceIte, hl, e1, e5, e6, e8]) ?_
      rintro envg152 _ ⟨rfl, hl, e1, e5, e6, e8, e24⟩
      try simp only [↓WD, W0, evalOp, Nat.reduceEqDiff, Nat.reduceLT, ↓reduceIte, reduceCtorEq, hl, e1, e5, e6, e8, e24]
      refine CondK_dec (fun c154 => ?_) (fun c154 => ?_)
      · rw [if_pos c154] at wr234
        try simp only [↓WD, W0, evalOp, Nat.reduceEqDiff, Nat.reduceLT, ↓reduceIte, reduceCtorEq, hl, e1, e5, e6, e8, e24]
        rw [AW_region]
        obtain ⟨y155, qy155, wr234⟩ := obind wr234
        have oy155 := shl_int (k := .u64) qy155
        refine AE_joinR (fun e h' => h150 = h' ∧ e.length = 48 ∧ e.getD 1 .undef = .int .i64 power ∧ e.getD 5 .undef = .int .u64 s.1 ∧ e.getD 6 .undef = u62 ∧ e.getD 8 .undef = .int .i64 s.2 ∧ e.getD 9 .undef = .int .u64 (IntKind.u64.wrap (s.1 + y155))) (by
          simp only [↓WE, WA, WL, aop, ofValue, ofCell, isConst, abin, acall1, abuiltin, aun, AV.cells, AV.one, Nat.reduceAdd, Int.reduceLT, Int.reduceLE, ↓WD, W0, evalOp, Nat.reduceEqDiff, Nat.reduceLT, ↓reduceIte, reduceCtorEq, hl, e1, e5, e6, e8, e24, oy155]
          refine ⟨rfl, ?_, ?_, ?_, ?_, ?_, ?_⟩ <;> simp only [List.length_set, W0, Nat.reduceEqDiff, Nat.reduceLT, ↓reduceIte, hl, e1, e5, e6, e8, e24]) ?_
        rintro envg156 _ ⟨rfl, hl, e1, e5, e6, e8, e9⟩
        try simp only [↓WD, W0, evalOp, Nat.reduceEqDiff, Nat.reduceLT, ↓reduceIte, reduceCtorEq, hl, e1, e5, e6, e8, e9]
        rw [AW_region]
        obtain ⟨y157, qy157, wr234⟩ := obind wr234
        obtain ⟨u161, h159, og158, _, rfl, S160⟩ := (W_ref04_digits n120 m (by omega) h150 (IntKind.u64.wrap (s.1 + y155)) qy157).out
        have S164 : Sep h [] h159 [.row u62 24 1 (r61.map (cellI .u64)), .row u161 24 1 (y157.map (cellI .u64))] := S151.call0 S160
        refine AE_joinR (fun e h' => h159 = h' ∧ e.length = 48 ∧ e.getD 1 .undef = .int .i64 power ∧ e.getD 5 .undef = .int .u64 s.1 ∧ e.getD 6 .undef = u62 ∧ e.getD 8 .undef = .int .i64 s.2 ∧ e.getD 9 .undef = .int .u64 (IntKind.u64.wrap (s.1 + y155)) ∧ e.getD 10 .undef = u161) (by
          simp only [↓WE, WA, WL, aop, ofValue, ofCell, isConst, abin, acall1, abuiltin, aun, AV.cells, AV.one, Nat.reduceAdd, Int.reduceLT, Int.reduceLE, ↓WD, W0, evalOp, Nat.reduceEqDiff, Nat.reduceLT, ↓reduceIte, reduceCtorEq, hl, e1, e5, e6, e8, e9, og158]
          refine ⟨rfl, ?_, ?_, ?_, ?_, ?_, ?_, ?_⟩ <;> simp only [List.length_set, W0, Nat.reduceEqDiff, Nat.reduceLT, ↓reduceIte, hl, e1, e5, e6, e8, e9]) ?_
        rintro envg165 _ ⟨rfl, hl, e1, e5, e6, e8, e9, e10⟩
        try simp only [↓WD, W0, evalOp, Nat.reduceEqDiff, Nat.reduceLT, ↓reduceIte, reduceCtorEq, hl, e1, e5, e6, e8, e9, e10]
        rw [AW_region]
        refine AE_joinR (fun e h' => h159 = h' ∧ e.length = 48 ∧ e.getD 1 .undef = .int .i64 power ∧ e.getD 5 .undef = .int .u64 s.1 ∧ e.getD 6 .undef = u62 ∧ e.getD 8 .undef = .int .i64 s.2 ∧ e.getD 9 .undef = .int .u64 (IntKind.u64.wrap (s.1 + y155)) ∧ e.getD 10 .undef = u161 ∧ e.getD 11 .undef = u161) (by
          simp only [↓WE, WA, WL, aop, ofValue, ofCell, isConst, abin, acall1, abuiltin, aun, AV.cells, AV.one, Nat.reduceAdd, Int.reduceLT, Int.reduceLE, ↓WD, W0, evalOp, Nat.reduceEqDiff, Nat.reduceLT, ↓reduceIte, reduceCtorEq, hl, e1, e5, e6, e8, e9, e10]
          refine ⟨rfl, ?_, ?_, ?_, ?_, ?_, ?_, ?_, ?_⟩ <;> simp only [List.length_set, W0, Nat.reduceEqDiff, Nat.reduceLT, ↓reduceIte, hl, e1, e5, e6, e8, e9, e10]) ?_
        rintro envg166 _ ⟨rfl, hl, e1, e5, e6, e8, e9, e10, e11⟩
        try simp only [↓WD, W0, evalOp, Nat.reduceEqDiff, Nat.reduceLT, ↓reduceIte, reduceCtorEq, hl, e1, e5, e6, e8, e9, e10, e11]
        rw [AW_region]
        refine AE_joinR (fun e h' => h159 = h' ∧ e.length = 48 ∧ e.getD 1 .undef = .int .i64 power ∧ e.getD 5 .undef = .int .u64 s.1 ∧ e.getD 6 .undef = u62 ∧ e.getD 8 .undef = .int .i64 s.2 ∧ e.getD 9 .undef = .int .u64 (IntKind.u64.wrap (s.1 + y155)) ∧ e.getD 10 .undef = u161 ∧ e.getD 11 .undef = u161 ∧ e.getD 12 .undef = .int .i64 1) (by
          simp only [↓WE, WA, WL, aop, ofValue, ofCell, isConst, abin, acall1, abuiltin, aun, AV.cells, AV.one, Nat.reduceAdd, Int.reduceLT, Int.reduceLE, ↓WD, W0, evalOp, Nat.reduceEqDiff, Nat.reduceLT, ↓reduceIte, reduceCtorEq, hl, e1, e5, e6, e8, e9, e10, e11]
          refine ⟨rfl, ?_, ?_, ?_, ?_, ?_, ?_, ?_, ?_, ?_⟩ <;> simp only [List.length_set, W0, Nat.reduceEqDiff, Nat.reduceLT, ↓reduceIte, hl, e1, e5, e6, e8, e9, e10, e11]) ?_
        rintro envg167 _ ⟨rfl, hl, e1, e5, e6, e8, e9, e10, e11, e12⟩
        try simp only [↓WD, W0, evalOp, Nat.reduceEqDiff, Nat.reduceLT, ↓reduceIte, reduceCtorEq, hl, e1, e5, e6, e8, e9, e10, e11, e12]
        obtain ⟨r214, qr214, wr234⟩ := obind wr234
        refine AW_lift (L_ref04_root_3 power y157) (fun s e h' => ∃ (u190 : AV), e.length = 48 ∧ e.getD 1 .undef = .int .i64 power ∧ e.getD 5 .undef = .int .u64 s.1 ∧ e.getD 6 .undef = u62 ∧ e.getD 8 .undef = .int .i64 s.2.1 ∧ e.getD 9 .undef = .int .u64 s.2.2.1 ∧ e.getD 10 .undef = u161 ∧ e.getD 11 .undef = u190 ∧ e.getD 12 .undef = .int .i64 s.2.2.2.2 ∧ Sep h [] h' [.row u62 24 1 (r61.map (cellI .u64))] ∧ RO 1 u161 h' (y157.map (cellI .u64)) ∧ ((y157.map (cellI .u64)) = [] ∨ ∀ k ∈ idsOf u161, k ∉ ([.row u62 24 1 (r61.map (cellI .u64))] : List Ent).flatMap Ent.ids) ∧ RO 1 u190 h' (s.2.2.2.1.map (cellI .u64)) ∧ ((s.2.2.2.1.map (cellI .u64)) = [] ∨ ∀ k ∈ idsOf u190, k ∉ ([.row u62 24 1 (r61.map (cellI .u64))] : List Ent).flatMap Ent.ids)) (fun r214 x e h' => ∃ (u215 : AV), x = .exit 4 ∧ e.length = 48 ∧ e.getD 1 .undef = .int .i64 power ∧ e.getD 5 .undef = .int .u64 r214.1 ∧ e.getD 6 .undef = u62 ∧ e.getD 8 .undef = .int .i64 r214.2.1 ∧ e.getD 9 .undef = .int .u64 r214.2.2.1 ∧ e.getD 11 .undef = u215 ∧ Sep h [] h' [.row u62 24 1 (r61.map (cellI .u64))] ∧ RO 1 u215 h' (r214.2.2.2.map (cellI .u64)) ∧ ((r214.2.2.2.map (cellI .u64)) = [] ∨ ∀ k ∈ idsOf u215, k ∉ ([.row u62 24 1 (r61.map (cellI .u64))] : List Ent).flatMap Ent.ids)) qr214 (by omega) ?_ ?_ ?_
        · rintro s envr214 h193 or214 ⟨u190, hl, e1, e5, e6, e8, e9, e10, e11, e12, S194, hu188, hx189, hu191, hx192⟩ wr214
          rw [L_ref04_root_3] at wr214
          try simp only [↓WD, W0, evalOp, Nat.reduceEqDiff, Nat.reduceLT, ↓reduceIte, reduceCtorEq, hl, e1, e5, e6, e8, e9, e10, e11, e12]
          have S195 : Sep h193 (([.row u62 24 1 (r61.map (cellI .u64))] : List Ent).flatMap Ent.ids) h193 [.row u62 24 1 (r61.map (cellI .u64))] := Sep.lendN S194.ok S194.nd
          rw [AW_region]
          refine AE_joinR (fun e h' => h193 = h' ∧ e.length = 48 ∧ e.getD 1 .undef = .int .i64 power ∧ e.getD 5 .undef = .int .u64 s.1 ∧ e.getD 6 .undef = u62 ∧ e.getD 8 .undef = .int .i64 s.2.1 ∧ e.getD 9 .undef = .int .u64 s.2.2.1 ∧ e.getD 10 .undef = u161 ∧ e.getD 11 .undef = u190 ∧ e.getD 12 .undef = .int .i64 s.2.2.2.2 ∧ e.getD 36 .undef = .bool (decide (s.2.2.2.2 < power))) (by
            simp only [↓WE, WA, WL, aop, ofValue, ofCell, isConst, abin, acall1, abuiltin, aun, AV.cells, AV.one, Nat.reduceAdd, Int.reduceLT, Int.reduceLE, ↓WD, W0, evalOp, Nat.reduceEqDiff, Nat.reduceLT, ↓reduceIte, reduceCtorEq, hl, e1, e5, e6, e8, e9, e10, e11, e12]
            refine ⟨rfl, ?_, ?_, ?_, ?_, ?_, ?_, ?_, ?_, ?_, ?_⟩ <;> simp only [List.length_set, W0, Nat.reduceEqDiff, Nat.reduceLT, ↓reduceIte, hl, e1, e5, e6, e8, e9, e10, e11, e12]) ?_
          rintro envg196 _ ⟨rfl, hl, e1, e5, e6, e8, e9, e10, e11, e12, e36⟩
          try simp only [↓WD, W0, evalOp, Nat.reduceEqDiff, Nat.reduceLT, ↓reduceIte, reduceCtorEq, hl, e1, e5, e6, e8, e9, e10, e11, e12, e36]
          refine CondK_dec (fun c198 => ?_) (fun c198 => ?_)
          · rw [if_pos c198] at wr214
            try simp only [↓WD, W0, evalOp, Nat.reduceEqDiff, Nat.reduceLT, ↓reduceIte, reduceCtorEq, hl, e1, e5, e6, e8, e9, e10, e11, e12, e36]
            rw [AW_region]
            obtain ⟨y199, qy199, wr214⟩ := obind wr214
            obtain ⟨u203, h201, og200, _, rfl, S202⟩ := (W_ref04_times n121 m (by omega) h193 u190 s.2.2.2.1 (S195.ro_away hx192 hu191) u161 y157 (S195.ro_away hx189 hu188) qy199).out
            have S206 : Sep h193 (([.row u62 24 1 (r61.map (cellI .u64))] : List Ent).flatMap Ent.ids) h201 [.row u62 24 1 (r61.map (cellI .u64)), .row u203 24 1 (y199.map (cellI .u64))] := S195.call0 S202
            refine AE_joinR (fun e h' => h201 = h' ∧ e.length = 48 ∧ e.getD 1 .undef = .int .i64 power ∧ e.getD 5 .undef = .int .u64 s.1 ∧ e.getD 6 .undef = u62 ∧ e.getD 8 .undef = .int .i64 s.2.1 ∧ e.getD 9 .undef = .int .u64 s.2.2.1 ∧ e.getD 10 .undef = u161 ∧ e.getD 11 .undef = u203 ∧ e.getD 12 .undef = .int .i64 s.2.2.2.2) (by
              simp only [↓WE, WA, WL, aop, ofValue, ofCell, isConst, abin, acall1, abuiltin, aun, AV.cells, AV.one, Nat.reduceAdd, Int.reduceLT, Int.reduceLE, ↓WD, W0, evalOp, Nat.reduceEqDiff, Nat.reduceLT, ↓reduceIte, reduceCtorEq, hl, e1, e5, e6, e8, e9, e10, e11, e12, e36, og200]
              refine ⟨rfl, ?_, ?_, ?_, ?_, ?_, ?_, ?_, ?_, ?_⟩ <;> simp only [List.length_set, W0, Nat.reduceEqDiff, Nat.reduceLT, ↓reduceIte, hl, e1, e5, e6, e8, e9, e10, e11, e12, e36]) ?_
            rintro envg207 _ ⟨rfl, hl, e1, e5, e6, e8, e9, e10, e11, e12⟩
            try simp only [↓WD, W0, evalOp, Nat.reduceEqDiff, Nat.reduceLT, ↓reduceIte, reduceCtorEq, hl, e1, e5, e6, e8, e9, e10, e11, e12]
            rw [AW_region]
            refine AE_joinR (fun e h' => h201 = h' ∧ e.length = 48 ∧ e.getD 1 .undef = .int .i64 power ∧ e.getD 5 .undef = .int .u64 s.1 ∧ e.getD 6 .undef = u62 ∧ e.getD 8 .undef = .int .i64 s.2.1 ∧ e.getD 9 .undef = .int .u64 s.2.2.1 ∧ e.getD 10 .undef = u161 ∧ e.getD 11 .undef = u203 ∧ e.getD 12 .undef = .int .i64 (IntKind.i64.wrap (s.2.2.2.2 + 1))) (by
              simp only [↓WE, WA, WL, aop, ofValue, ofCell, isConst, abin, acall1, abuiltin, aun, AV.cells, AV.one, Nat.reduceAdd, Int.reduceLT, Int.reduceLE, ↓WD, W0, evalOp, Nat.reduceEqDiff, Nat.reduceLT, ↓reduceIte, reduceCtorEq, hl, e1, e5, e6, e8, e9, e10, e11, e12]
              refine ⟨rfl, ?_, ?_, ?_, ?_, ?_, ?_, ?_, ?_, ?_⟩ <;> simp only [List.length_set, W0, Nat.reduceEqDiff, Nat.reduceLT, ↓reduceIte, hl, e1, e5, e6, e8, e9, e10, e11, e12]) ?_
            rintro envg208 _ ⟨rfl, hl, e1, e5, e6, e8, e9, e10, e11, e12⟩
            try simp only [↓WD, W0, evalOp, Nat.reduceEqDiff, Nat.reduceLT, ↓reduceIte, reduceCtorEq, hl, e1, e5, e6, e8, e9, e10, e11, e12]
            obtain rfl := Option.some.inj wr214
            rw [KP_nil, QL_normal]
            refine ⟨_, rfl, u203, ?_, ?_, ?_, ?_, ?_, ?_, ?_, ?_, ?_, Sep.base S194 (S206.pick [0] (by decide) rfl), (S206.ro_away hx189 hu188), (S206.away_ro hu188 hx189 [0] rfl), (S206.row_ro (i := 1) rfl), (S206.away_row 1 rfl [0] (by decide) rfl)⟩ <;> simp only [List.length_set, W0, Nat.reduceEqDiff, Nat.reduceLT, ↓reduceIte, hl, e1, e5, e6, e8, e9, e10, e11, e12]
          · rw [if_neg c198] at wr214
            try simp only [↓WD, W0, evalOp, Nat.reduceEqDiff, Nat.reduceLT, ↓reduceIte, reduceCtorEq, hl, e1, e5, e6, e8, e9, e10, e11, e12, e36]
            obtain rfl := Option.some.inj wr214
            rw [KP_nil, QL_exit]
            refine ⟨_, rfl, u190, rfl, ?_, ?_, ?_, ?_, ?_, ?_, ?_, Sep.base S194 S195, (S195.ro_away hx192 hu191), (S195.away_ro hu191 hx192 [0] rfl)⟩ <;> simp only [List.length_set, W0, Nat.reduceEqDiff, Nat.reduceLT, ↓reduceIte, hl, e1, e5, e6, e8, e9, e10, e11, e12, e36]
        · refine ⟨u161, ?_, ?_, ?_, ?_, ?_, ?_, ?_, ?_, ?_, S164.pick [0] (by decide) rfl, (S164.row_ro (i := 1) rfl), (S164.away_row 1 rfl [0] (by decide) rfl), (S164.row_ro (i := 1) rfl), (S164.away_row 1 rfl [0] (by decide) rfl)⟩ <;> simp only [List.length_set, W0, Nat.reduceEqDiff, Nat.reduceLT, ↓reduceIte, hl, e1, e5, e6, e8, e9, e10, e11, e12]
        · rintro x envr214 h218 ⟨u215, rfl, hl, e1, e5, e6, e8, e9, e11, S219, hu216, hx217⟩
          try simp only [↓WD, W0, evalOp, Nat.reduceEqDiff, Nat.reduceLT, ↓reduceIte, reduceCtorEq, hl, e1, e5, e6, e8, e9, e11]
          have S220 : Sep h218 (([.row u62 24 1 (r61.map (cellI .u64))] : List Ent).flatMap Ent.ids) h218 [.row u62 24 1 (r61.map (cellI .u64))] := Sep.lendN S219.ok S219.nd
          rw [AW_region]
          obtain ⟨y221, qy221, wr234⟩ := obind wr234
          obtain ⟨v225, h223, og222, rfl, S224⟩ := (W_ref04_atMost n122 m (by omega) h218 u215 r214.2.2.2 (S220.ro_away hx217 hu216) u62 r61 (S220.row_ro (i := 0) rfl) qy221).out
          have S226 : Sep h218 (([.row u62 24 1 (r61.map (cellI .u64))] : List Ent).flatMap Ent.ids) h223 [.row u62 24 1 (r61.map (cellI .u64))] := S220.call0 S224
          refine AE_joinR (fun e h' => h223 = h' ∧ e.length = 48 ∧ e.getD 1 .undef = .int .i64 power ∧ e.getD 5 .undef = .int .u64 r214.1 ∧ e.getD 6 .undef = u62 ∧ e.getD 8 .undef = .int .i64 r214.2.1 ∧ e.getD 9 .undef = .int .u64 r214.2.2.1 ∧ e.getD 44 .undef = .bool y221) (by
            simp only [↓WE, WA, WL, aop, ofValue, ofCell, isConst, abin, acall1, abuiltin, aun, AV.cells, AV.one, Nat.reduceAdd, Int.reduceLT, Int.reduceLE, ↓WD, W0, evalOp, Nat.reduceEqDiff, Nat.reduceLT, ↓reduceIte, reduceCtorEq, hl, e1, e5, e6, e8, e9, e11, og222]
            refine ⟨rfl, ?_, ?_, ?_, ?_, ?_, ?_, ?_⟩ <;> simp only [List.length_set, W0, Nat.reduceEqDiff, Nat.reduceLT, ↓reduceIte, hl, e1, e5, e6, e8, e9, e11]) ?_
          rintro envg227 _ ⟨rfl, hl, e1, e5, e6, e8, e9, e44⟩
          try simp only [↓WD, W0, evalOp, Nat.reduceEqDiff, Nat.reduceLT, ↓reduceIte, reduceCtorEq, hl, e1, e5, e6, e8, e9, e44]
          refine CondK_boo (fun c230 => ?_) (fun c230 => ?_)
          · rw [if_pos c230] at wr234
            try simp only [↓WD, W0, evalOp, Nat.reduceEqDiff, Nat.reduceLT, ↓reduceIte, reduceCtorEq, hl, e1, e5, e6, e8, e9, e44]
            rw [AW_region]
            refine AE_joinR (fun e h' => h223 = h' ∧ e.length = 48 ∧ e.getD 1 .undef = .int .i64 power ∧ e.getD 5 .undef = .int .u64 r214.2.2.1 ∧ e.getD 6 .undef = u62 ∧ e.getD 8 .undef = .int .i64 r214.2.1) (by
              simp only [↓WE, WA, WL, aop, ofValue, ofCell, isConst, abin, acall1, abuiltin, aun, AV.cells, AV.one, Nat.reduceAdd, Int.reduceLT, Int.reduceLE, ↓WD, W0, evalOp, Nat.reduceEqDiff, Nat.reduceLT, ↓reduceIte, reduceCtorEq, hl, e1, e5, e6, e8, e9, e44]
              refine ⟨rfl, ?_, ?_, ?_, ?_, ?_⟩ <;> simp only [List.length_set, W0, Nat.reduceEqDiff, Nat.reduceLT, ↓reduceIte, hl, e1, e5, e6, e8, e9, e44]) ?_
            rintro envg231 _ ⟨rfl, hl, e1, e5, e6, e8⟩
            try simp only [↓WD, W0, evalOp, Nat.reduceEqDiff, Nat.reduceLT, ↓reduceIte, reduceCtorEq, hl, e1, e5, e6, e8]
            rw [AW_region]
            refine AE_joinR (fun e h' => h223 = h' ∧ e.length = 48 ∧ e.getD 1 .undef = .int .i64 power ∧ e.getD 5 .undef = .int .u64 r214.2.2.1 ∧ e.getD 6 .undef = u62 ∧ e.getD 8 .undef = .int .i64 (IntKind.i64.wrap (r214.2.1 - 1))) (by
              simp only [↓WE, WA, WL, aop, ofValue, ofCell, isConst, abin, acall1, abuiltin, aun, AV.cells, AV.one, Nat.reduceAdd, Int.reduceLT, Int.reduceLE, ↓WD, W0, evalOp, Nat.reduceEqDiff, Nat.reduceLT, ↓reduceIte, reduceCtorEq, hl, e1, e5, e6, e8]
              refine ⟨rfl, ?_, ?_, ?_, ?_, ?_⟩ <;> simp only [List.length_set, W0, Nat.reduceEqDiff, Nat.reduceLT, ↓reduceIte, hl, e1, e5, e6, e8]) ?_
            rintro envg232 _ ⟨rfl, hl, e1, e5, e6, e8⟩
            try simp only [↓WD, W0, evalOp, Nat.reduceEqDiff, Nat.reduceLT, ↓reduceIte, reduceCtorEq, hl, e1, e5, e6, e8]
            obtain rfl := Option.some.inj wr234
            rw [KP_nil, QL_normal]
            refine ⟨_, rfl, ?_, ?_, ?_, ?_, ?_, Sep.base S219 S226⟩ <;> simp only [List.length_set, W0, Nat.reduceEqDiff, Nat.reduceLT, ↓reduceIte, hl, e1, e5, e6, e8]
          · rw [if_neg (nf c230)] at wr234
            try simp only [↓WD, W0, evalOp, Nat.reduceEqDiff, Nat.reduceLT, ↓reduceIte, reduceCtorEq, hl, e1, e5, e6, e8, e9, e44]
            rw [AW_region]
            refine AE_joinR (fun e h' => h223 = h' ∧ e.length = 48 ∧ e.getD 1 .undef = .int .i64 power ∧ e.getD 5 .undef = .int .u64 r214.1 ∧ e.getD 6 .undef = u62 ∧ e.getD 8 .undef = .int .i64 (IntKind.i64.wrap (r214.2.1 - 1))) (by
              simp only [↓WE, WA, WL, aop, ofValue, ofCell, isConst, abin, acall1, abuiltin, aun, AV.cells, AV.one, Nat.reduceAdd, Int.reduceLT, Int.reduceLE, ↓WD, W0, evalOp, Nat.reduceEqDiff, Nat.reduceLT, ↓reduceIte, reduceCtorEq, hl, e1, e5, e6, e8, e9, e44]
              refine ⟨rfl, ?_, ?_, ?_, ?_, ?_⟩ <;> simp only [List.length_set, W0, Nat.reduceEqDiff, Nat.reduceLT, ↓reduceIte, hl, e1, e5, e6, e8, e9, e44]) ?_
            rintro envg233 _ ⟨rfl, hl, e1, e5, e6, e8⟩
            try simp only [↓WD, W0, evalOp, Nat.reduceEqDiff, Nat.reduceLT, ↓reduceIte, reduceCtorEq, hl, e1, e5, e6, e8]
            obtain rfl := Option.some.inj wr234
            rw [KP_nil, QL_normal]
            refine ⟨_, rfl, ?_, ?_, ?_, ?_, ?_, Sep.base S219 S226⟩ <;> simp only [List.length_set, W0, Nat.reduceEqDiff, Nat.reduceLT, ↓reduceIte, hl, e1, e5, e6, e8]
      · rw [if_neg c154] at wr234
        try simp only [↓WD, W0, evalOp, Nat.reduceEqDiff, Nat.reduceLT, ↓reduceIte, reduceCtorEq, hl, e1, e5, e6, e8, e24]
        obtain rfl := Option.some.inj wr234
        rw [KP_nil, QL_exit]
        refine ⟨_, rfl, rfl, ?_, ?_, S151.pick [] (by decide) rfl⟩ <;> simp only [List.length_set, W0, Nat.reduceEqDiff, Nat.reduceLT, ↓reduceIte, hl, e1, e5, e6, e8, e24]
    · refine ⟨?_, ?_, ?_, ?_, ?_, S64⟩ <;> simp only [List.length_set, W0, Nat.reduceEqDiff, Nat.reduceLT, ↓reduceIte, hl, e1, e5, e6, e8]
    · rintro x envr234 h235 ⟨rfl, hl, e5, S236⟩
      try simp only [↓WD, W0, evalOp, Nat.reduceEqDiff, Nat.reduceLT, ↓reduceIte, reduceCtorEq, hl, e5]
      rw [AW_region]
      have oc237 := fun g : AH => aconv_int (P := Try.prog) (h := g) (n := r234) (k' := .u64) Try.underlying24 Try.underlying85
      refine AE_joinR (fun e h' => h235 = h' ∧ e.length = 48 ∧ e.getD 4 .undef = .int .u32 (IntKind.u32.wrap r234)) (by
        simp only [↓WE, WA, WL, aop, ofValue, ofCell, isConst, abin, acall1, abuiltin, aun, AV.cells, AV.one, Nat.reduceAdd, Int.reduceLT, Int.reduceLE, ↓WD, W0, evalOp, Nat.reduceEqDiff, Nat.reduceLT, ↓reduceIte, reduceCtorEq, hl, e5, oc237]
        refine ⟨rfl, ?_, ?_⟩ <;> simp only [List.length_set, W0, Nat.reduceEqDiff, Nat.reduceLT, ↓reduceIte, hl, e5]) ?_
      rintro envg238 _ ⟨rfl, hl, e4⟩
      try simp only [↓WD, W0, evalOp, Nat.reduceEqDiff, Nat.reduceLT, ↓reduceIte, reduceCtorEq, hl, e4]
      refine KP_ret (vs := [.int .u32 (IntKind.u32.wrap r234)]) (by simp only [aresults, aresult, gs, List.length_set, Nat.reduceEqDiff, Nat.reduceLT, ↓reduceIte, hl, e4]) ?_
      obtain rfl := Option.some.inj hF
      exact rfl
theorem W_ref04_roots {K : PureK} (k98 : K 98 = some kf_98) (n97 : K 97 = none) (n58 : K 58 = none) (m : Nat) (hm : NF + 2 ≤ m) (h : AH) (n_ : Int) (power : Int) {r : (List Int)} (hF : F_ref04_roots n_ power = some r) :
    AR (acall Try.prog (hooksOf K) (drawnOf Try.prog (tabOf K)) m 58 [.int .i64 n_, .int .i64 power] h) (fun v h' => ∃ w0 : AV, v = w0 ∧ Sep h [] h' [.row w0 85 1 (r.map (cellI .u32))]) := by
  obtain ⟨m, rfl⟩ : ∃ k, m = k + 1 := ⟨m - 1, by omega⟩
  refine AR_call (hooksOf_none n58) Try.func58 rfl _ _ fun env hl he => ?_
  have e0 := he 0
  have e1 := he 1
  simp only [List.getD_cons_zero, List.getD_cons_succ] at e0 e1
  simp only [Try.f58] at hl ⊢
  simp only [List.length_cons, List.length_nil, Nat.reduceAdd, Nat.reduceSub] at hl
  clear he
  have S0 : Sep h [] h [] := Sep.nil h
  rw [F_ref04_roots] at hF
  try simp only [↓WD, W0, evalOp, Nat.reduceEqDiff, Nat.reduceLT, ↓reduceIte, reduceCtorEq, hl, e0, e1]
  rw [AW_region]
  refine AE_joinR (fun e h' => h = h' ∧ e.length = 25 ∧ e.getD 0 .undef = .int .i64 n_ ∧ e.getD 1 .undef = .int .i64 power) (by
    simp only [↓WE, WA, WL, aop, ofValue, ofCell, isConst, abin, acall1, abuiltin, aun, AV.cells, AV.one, Nat.reduceAdd, Int.reduceLT, Int.reduceLE, ↓WD, W0, evalOp, Nat.reduceEqDiff, Nat.reduceLT, ↓reduceIte, reduceCtorEq, hl, e0, e1]
    refine ⟨rfl, ?_, ?_, ?_⟩ <;> simp only [List.length_set, W0, Nat.reduceEqDiff, Nat.reduceLT, ↓reduceIte, hl, e0, e1]) ?_
  rintro envg1 _ ⟨rfl, hl, e0, e1⟩
  try simp only [↓WD, W0, evalOp, Nat.reduceEqDiff, Nat.reduceLT, ↓reduceIte, reduceCtorEq, hl, e0, e1]
  rw [AW_region]
  obtain ⟨y2, qy2, hF⟩ := obind hF
  obtain ⟨u6, h4, og3, _, rfl, S5⟩ := (W_ref04_primes n97 m (by omega) h n_ qy2).out
  have S9 : Sep h [] h4 [.row u6 24 1 (y2.map (cellI .u64))] := S0.call0 S5
  refine AE_joinR (fun e h' => h4 = h' ∧ e.length = 25 ∧ e.getD 0 .undef = .int .i64 n_ ∧ e.getD 1 .undef = .int .i64 power ∧ e.getD 5 .undef = u6) (by
    simp only [↓WE, WA, WL, aop, ofValue, ofCell, isConst, abin, acall1, abuiltin, aun, AV.cells, AV.one, Nat.reduceAdd, Int.reduceLT, Int.reduceLE, ↓WD, W0, evalOp, Nat.reduceEqDiff, Nat.reduceLT, ↓reduceIte, reduceCtorEq, hl, e0, e1, og3]
    refine ⟨rfl, ?_, ?_, ?_, ?_⟩ <;> simp only [List.length_set, W0, Nat.reduceEqDiff, Nat.reduceLT, ↓reduceIte, hl, e0, e1]) ?_
  rintro envg10 _ ⟨rfl, hl, e0, e1, e5⟩
  try simp only [↓WD, W0, evalOp, Nat.reduceEqDiff, Nat.reduceLT, ↓reduceIte, reduceCtorEq, hl, e0, e1, e5]
  rw [AW_region]
  refine AE_joinR (fun e h' => h4 = h' ∧ e.length = 25 ∧ e.getD 0 .undef = .int .i64 n_ ∧ e.getD 1 .undef = .int .i64 power ∧ e.getD 5 .undef = u6 ∧ e.getD 6 .undef = .val (.slice none 0 0)) (by
    simp only [↓WE, WA, WL, aop, ofValue, ofCell, isConst, abin, acall1, abuiltin, aun, AV.cells, AV.one, Nat.reduceAdd, Int.reduceLT, Int.reduceLE, ↓WD, W0, evalOp, Nat.reduceEqDiff, Nat.reduceLT, ↓reduceIte, reduceCtorEq, hl, e0, e1, e5]
    refine ⟨rfl, ?_, ?_, ?_, ?_, ?_⟩ <;> simp only [List.length_set, W0, Nat.reduceEqDiff, Nat.reduceLT, ↓reduceIte, hl, e0, e1, e5]) ?_
  rintro envg11 _ ⟨rfl, hl, e0, e1, e5, e6⟩
  try simp only [↓WD, W0, evalOp, Nat.reduceEqDiff, Nat.reduceLT, ↓reduceIte, reduceCtorEq, hl, e0, e1, e5, e6]
  rw [AW_region]
  refine AE_joinR (fun e h' => h4 = h' ∧ e.length = 25 ∧ e.getD 0 .undef = .int .i64 n_ ∧ e.getD 1 .undef = .int .i64 power ∧ e.getD 5 .undef = u6 ∧ e.getD 6 .undef = .val (.slice none 0 0) ∧ e.getD 7 .undef = .int .i64 0) (by
    simp only [↓WE, WA, WL, aop, ofValue, ofCell, isConst, abin, acall1, abuiltin, aun, AV.cells, AV.one, Nat.reduceAdd, Int.reduceLT, Int.reduceLE, ↓WD, W0, evalOp, Nat.reduceEqDiff, Nat.reduceLT, ↓reduceIte, reduceCtorEq, hl, e0, e1, e5, e6]
    refine ⟨rfl, ?_, ?_, ?_, ?_, ?_, ?_⟩ <;> simp only [List.length_set, W0, Nat.reduceEqDiff, Nat.reduceLT, ↓reduceIte, hl, e0, e1, e5, e6]) ?_
  rintro envg12 _ ⟨rfl, hl, e0, e1, e5, e6, e7⟩
  try simp only [↓WD, W0, evalOp, Nat.reduceEqDiff, Nat.reduceLT, ↓reduceIte, reduceCtorEq, hl, e0, e1, e5, e6, e7]
  have S43 : Sep h [] h4 [.row u6 24 1 (y2.map (cellI .u64)), .row (.val (.slice none 0 0)) 85 1 (([] : List Int).map (cellI .u32))] := S9.nilrow 85 1
  obtain ⟨r77, qr77, hF⟩ := obind hF
  refine AW_lift (L_ref04_roots_1 n_ y2 power) (fun s e h' => ∃ (u47 : AV), e.length = 25 ∧ e.getD 0 .undef = .int .i64 n_ ∧ e.getD 1 .undef = .int .i64 power ∧ e.getD 5 .undef = u6 ∧ e.getD 6 .undef = u47 ∧ e.getD 7 .undef = .int .i64 s.2 ∧ Sep h [] h' [.row u6 24 1 (y2.map (cellI .u64)), .row u47 85 1 (s.1.map (cellI .u32))]) (fun r77 x e h' => ∃ (u78 : AV), x = .exit 0 ∧ e.length = 25 ∧ e.getD 6 .undef = u78 ∧ Sep h [] h' [.row u78 85 1 (r77.map (cellI .u32))]) qr77 (by omega) ?_ ?_ ?_
  · rintro s envr77 h48 or77 ⟨u47, hl, e0, e1, e5, e6, e7, S49⟩ wr77
    rw [L_ref04_roots_1] at wr77
    try simp only [↓WD, W0, evalOp, Nat.reduceEqDiff, Nat.reduceLT, ↓reduceIte, reduceCtorEq, hl, e0, e1, e5, e6, e7]
    rw [AW_region]
    refine AE_joinR (fun e h' => h48 = h' ∧ e.length = 25 ∧ e.getD 0 .undef = .int .i64 n_ ∧ e.getD 1 .undef = .int .i64 power ∧ e.getD 5 .undef = u6 ∧ e.getD 6 .undef = u47 ∧ e.getD 7 .undef = .int .i64 s.2 ∧ e.getD 12 .undef = .bool (decide (s.2 < n_))) (by
      simp only [↓WE, WA, WL, aop, ofValue, ofCell, isConst, abin, acall1, abuiltin, aun, AV.cells, AV.one, Nat.reduceAdd, Int.reduceLT, Int.reduceLE, ↓WD, W0, evalOp, Nat.reduceEqDiff, Nat.reduceLT, ↓reduceIte, reduceCtorEq, hl, e0, e1, e5, e6, e7]
      refine ⟨rfl, ?_, ?_, ?_, ?_, ?_, ?_, ?_⟩ <;> simp only [List.length_set, W0, Nat.reduceEqDiff, Nat.reduceLT, ↓reduceIte, hl, e0, e1, e5, e6, e7]) ?_
    rintro envg50 _ ⟨rfl, hl, e0, e1, e5, e6, e7, e12⟩
    try simp only [↓WD, W0, evalOp, Nat.reduceEqDiff, Nat.reduceLT, ↓reduceIte, reduceCtorEq, hl, e0, e1, e5, e6, e7, e12]
    refine CondK_dec (fun c52 => ?_) (fun c52 => ?_)
    · rw [if_pos c52] at wr77
      try simp only [↓WD, W0, evalOp, Nat.reduceEqDiff, Nat.reduceLT, ↓reduceIte, reduceCtorEq, hl, e0, e1, e5, e6, e7, e12]
      rw [AW_region]
      obtain ⟨x53, qx53, wr77⟩ := obind wr77
      obtain ⟨i54, off55, oi56, hp57⟩ := RO.addr (P := Try.prog) sl_141 (S49.row_ro (i := 0) rfl) qx53
      have ol58 := RO.ld (P := Try.prog) (S49.row_ro (i := 0) rfl) hp57 qx53 (t := 24) (o := 0) (v := .int .u64 x53) (by omega) (by simp only [apart, ag_24, sz_24]; rfl)
      simp only [Nat.add_zero] at ol58
      obtain ⟨y59, qy59, wr77⟩ := obind wr77
      have og60 := fun (D : Drawn) (n : Nat) (g : AH) => call_hook (P := Try.prog) (D := D) k98 n (args := [.int .u64 x53, .int .i64 power]) (v := .int .u32 y59) ((kf_98_eq x53 power).trans (by rw [qy59]; rfl)) g
      obtain ⟨u61, h62, ob63, S64⟩ := Sep.build (P := Try.prog) sl_82 S49 [.int .u32 y59] (([y59] : List Int).map (cellI .u32)) rfl (by simp [cellI]) (by simp)
      have ob63 : abuildSlice Try.prog 82 1 [(0, .int .u32 y59)] h48 = some (u61, h62) := ob63
      have S66 : Sep h [] h62 [.row u6 24 1 (y2.map (cellI .u64)), .row u47 85 1 (s.1.map (cellI .u32)), .row u61 85 1 (([y59] : List Int).map (cellI .u32))] := S64
      obtain ⟨zs67, qzs67, wr77⟩ := obind wr77
      obtain ⟨u68, h69, op70, S71⟩ := Sep.append (P := Try.prog) (t' := 82) sl_82 (by rw [Try.underlying82]; rfl) S66 1 rfl (S66.row_ro (i := 2) rfl) (fun _ => rfl) qzs67
      have S72 : Sep h [] h69 [.row u6 24 1 (y2.map (cellI .u64)), .row u68 85 1 (zs67.map (cellI .u32)), .row u61 85 1 (([y59] : List Int).map (cellI .u32))] := S71
      refine AE_joinR (fun e h' => h69 = h' ∧ e.length = 25 ∧ e.getD 0 .undef = .int .i64 n_ ∧ e.getD 1 .undef = .int .i64 power ∧ e.getD 5 .undef = u6 ∧ e.getD 6 .undef = u68 ∧ e.getD 7 .undef = .int .i64 s.2) (by
        simp only [↓WE, WA, WL, aop, ofValue, ofCell, isConst, abin, acall1, abuiltin, aun, AV.cells, AV.one, Nat.reduceAdd, Int.reduceLT, Int.reduceLE, ↓WD, W0, evalOp, Nat.reduceEqDiff, Nat.reduceLT, ↓reduceIte, reduceCtorEq, hl, e0, e1, e5, e6, e7, e12, oi56, ol58, og60, ob63, op70]
        refine ⟨rfl, ?_, ?_, ?_, ?_, ?_, ?_⟩ <;> simp only [List.length_set, W0, Nat.reduceEqDiff, Nat.reduceLT, ↓reduceIte, hl, e0, e1, e5, e6, e7, e12]) ?_
      rintro envg73 _ ⟨rfl, hl, e0, e1, e5, e6, e7⟩
      try simp only [↓WD, W0, evalOp, Nat.reduceEqDiff, Nat.reduceLT, ↓reduceIte, reduceCtorEq, hl, e0, e1, e5, e6, e7]
      rw [AW_region]
      refine AE_joinR (fun e h' => h69 = h' ∧ e.length = 25 ∧ e.getD 0 .undef = .int .i64 n_ ∧ e.getD 1 .undef = .int .i64 power ∧ e.getD 5 .undef = u6 ∧ e.getD 6 .undef = u68 ∧ e.getD 7 .undef = .int .i64 (IntKind.i64.wrap (s.2 + 1))) (by
        simp only [↓WE, WA, WL, aop, ofValue, ofCell, isConst, abin, acall1, abuiltin, aun, AV.cells, AV.one, Nat.reduceAdd, Int.reduceLT, Int.reduceLE, ↓WD, W0, evalOp, Nat.reduceEqDiff, Nat.reduceLT, ↓reduceIte, reduceCtorEq, hl, e0, e1, e5, e6, e7]
        refine ⟨rfl, ?_, ?_, ?_, ?_, ?_, ?_⟩ <;> simp only [List.length_set, W0, Nat.reduceEqDiff, Nat.reduceLT, ↓reduceIte, hl, e0, e1, e5, e6, e7]) ?_
      rintro envg74 _ ⟨rfl, hl, e0, e1, e5, e6, e7⟩
      try simp only [↓WD, W0, evalOp, Nat.reduceEqDiff, Nat.reduceLT, ↓reduceIte, reduceCtorEq, hl, e0, e1, e5, e6, e7]
      obtain rfl := Option.some.inj wr77
      rw [KP_nil, QL_normal]
      refine ⟨_, rfl, u68, ?_, ?_, ?_, ?_, ?_, ?_, S72.pick [0, 1] (by decide) rfl⟩ <;> simp only [List.length_set, W0, Nat.reduceEqDiff, Nat.reduceLT, ↓reduceIte, hl, e0, e1, e5, e6, e7]
    · rw [if_neg c52] at wr77
      try simp only [↓WD, W0, evalOp, Nat.reduceEqDiff, Nat.reduceLT, ↓reduceIte, reduceCtorEq, hl, e0, e1, e5, e6, e7, e12]
      obtain rfl := Option.some.inj wr77
      rw [KP_nil, QL_exit]
      refine ⟨_, rfl, u47, rfl, ?_, ?_, S49.pick [1] (by decide) rfl⟩ <;> simp only [List.length_set, W0, Nat.reduceEqDiff, Nat.reduceLT, ↓reduceIte, hl, e0, e1, e5, e6, e7, e12]
  · refine ⟨.val (.slice none 0 0), ?_, ?_, ?_, ?_, ?_, ?_, S43⟩ <;> simp only [List.length_set, W0, Nat.reduceEqDiff, Nat.reduceLT, ↓reduceIte, hl, e0, e1, e5, e6, e7]
  · rintro x envr77 h79 ⟨u78, rfl, hl, e6, S80⟩
    try simp only [↓WD, W0, evalOp, Nat.reduceEqDiff, Nat.reduceLT, ↓reduceIte, reduceCtorEq, hl, e6]
    rw [AW_region]
    refine AE_joinR (fun e h' => h79 = h' ∧ e.length = 25 ∧ e.getD 4 .undef = u78) (by
      simp only [↓WE, WA, WL, aop, ofValue, ofCell, isConst, abin, acall1, abuiltin, aun, AV.cells, AV.one, Nat.reduceAdd, Int.reduceLT, Int.reduceLE, ↓WD, W0, evalOp, Nat.reduceEqDiff, Nat.reduceLT, ↓reduceIte, reduceCtorEq, hl, e6]
      refine ⟨rfl, ?_, ?_⟩ <;> simp only [List.length_set, W0, Nat.reduceEqDiff, Nat.reduceLT, ↓reduceIte, hl, e6]) ?_
    rintro envg81 _ ⟨rfl, hl, e4⟩
    try simp only [↓WD, W0, evalOp, Nat.reduceEqDiff, Nat.reduceLT, ↓reduceIte, reduceCtorEq, hl, e4]
    refine KP_ret (vs := [u78]) (by simp only [aresults, aresult, gs, List.length_set, Nat.reduceEqDiff, Nat.reduceLT, ↓reduceIte, hl, e4]) ?_
    obtain rfl := Option.some.inj hF
    exact ⟨u78, rfl, S80⟩
end Go.Proofs.YtobhmahlenjheaaM
