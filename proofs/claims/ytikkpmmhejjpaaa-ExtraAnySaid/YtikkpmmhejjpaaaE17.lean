/- The parser of layer 17's fields, by the machine, for every input. -/
import Derived.Test.YtikkpmmhejjpaaaU02
import Derived.Test.YtikkpmmhejjpaaaBLD
set_option linter.unusedSimpArgs false
set_option linter.unusedVariables false
namespace Go.Proofs.YtikkpmmhejjpaaaM
open Go Go.RowKit
variable {Γ : Hooks} {D : Drawn}

theorem rt35 : RowTy Try.prog 35 47 2 := ⟨Try.underlying35, by kernel_rfl, by kernel_rfl, by kernel_rfl, by omega⟩
theorem build47 (i : Int) (d : List UInt8) : abuild Try.prog 47 [(0, .int .i64 i), (1, .str d)] = some (.agg [.int .i64 i, .str d]) := by kernel_rfl

/-- A field, as cells. -/
def ec (x : Int × List UInt8) : List AV := [.int .i64 x.1, .str x.2]

/-- The fields from a place on. -/
def pz (s : List UInt8) : Nat → Nat → Option (List (Int × List UInt8))
  | 0, _ => some []
  | f + 1, a =>
    if s.length ≤ a then some [] else
    if (cutOf s (a + 2 : Nat) 2).2 = 0 ∧ (cutOf s (a + 4 : Nat) (leNum (cutOf s (a + 2 : Nat) 2).1)).2 = 0 then
      (pz s f (a + 4 + leNum (cutOf s (a + 2 : Nat) 2).1)).map fun l => (leNum (cutOf s (a : Nat) 2).1, (cutOf s (a + 4 : Nat) (leNum (cutOf s (a + 2 : Nat) 2).1)).1) :: l
    else none

theorem cut_ok {s : List UInt8} {a m : Int} (h : (cutOf s a m).2 = 0) : 0 ≤ a ∧ 0 ≤ m ∧ a + m ≤ s.length := by
  unfold cutOf at h
  split at h
  · simp at h
  · omega

/-- What the parser hands back. -/
def ParseSaid (h : AH) (r : Option (List (Int × List UInt8))) (v : AV) (h' : AH) : Prop :=
  (match r with
    | none => v = .tup [.val (.slice none 0 0), .int .i64 2]
    | some l => ∃ u, v = .tup [u, .int .i64 0] ∧ RS 47 2 u h' (l.map ec) ∧ ∀ k n, u = .sl k 0 n 2 → h.n ≤ k) ∧ h.n ≤ h'.n ∧ ∀ k o, h.get k = some o → h'.get k = some o

set_option maxRecDepth 100000 in
set_option maxHeartbeats 2000000 in
theorem Parse_run (h47 : Γ 47 = none) (h46 : Γ 46 = none) (h16 : Γ 16 = none) (h21 : Γ 21 = none) (n : Nat) (s : List UInt8) (hs : s.length < 100000) (hn : s.length + 20 ≤ n) (h : AH) :
    AR (acall Try.prog Γ D (n + 1) 21 [.str s] h) fun v h' => ParseSaid h (pz s (s.length + 1) 0) v h' := by
  refine AR_call h21 Try.func21 rfl _ _ fun env hl he => ?_
  have e0 := he 0
  simp only [List.getD_cons_zero, List.getD_cons_succ] at e0
  simp only [Try.f21] at hl ⊢
  simp only [List.length_cons, List.length_nil, Nat.reduceAdd, Nat.reduceSub] at hl
  simp only [↓KP_nil, ↓KP_seq, ↓KP_seqE, ↓KP_seqR, ↓KP_block, ↓KP_blockE, ↓KP_blockR, ↓AW_skip, ↓AW_region, ↓AW_drawn, ↓AW_seq, ↓AW_cond, ↓AW_block, ↓AW_exit, ↓AW_scope, ↓AW_label, ↓AW_ret, ↓AW_loop, ↓AE_nil, ↓AE_step, ↓AE_guard, ↓KA_some, ↓KA_none, ↓CondK_true, ↓CondK_false, ↓GuardK_some, ↓GuardW_yes, ↓GuardW_tf, ↓GuardW_ft, ↓GuardW_undef, ↓dstAt_zero, ↓dstAt_succ, ↓AR_some, ↓AR_none, ↓AVK_some, ↓AVM_some, ↓AHK_some, CondK_true, CondK_false, GuardW_yes, GuardW_tf, GuardW_ft, GuardW_undef, Qfun_normal, Qfun_ret, Qloop_normal, Qloop_exit, Qloop_ret, AR_some, AR_none, AR_map, AR_mapH, AR_ite, AVK_some, AVK_none, AVK_map, AVK_ite, AVM_some, AVM_none, AHK_some, AHK_none, AHK_ite, aop, gs, List.length_set, evalOp, ofValue, ofCell, isConst, abin, aint, astrop, ashift, aun, acall1, abuiltin, alenOf, aresults, aresult, packed, List.nil_append, List.append_nil, List.map_cons, List.map_nil, List.getElem?_toArray, List.getElem?_cons_zero, List.getElem?_cons_succ, Option.bind_some, Option.map_some, Option.map_none, Nat.reduceEqDiff, Nat.reduceLT, Int.reduceLT, Int.reduceLE, Int.reduceGT, Int.reduceGE,  Nat.reduceAdd, Nat.reduceSub, ↓reduceIte, reduceCtorEq, Bool.false_eq_true, Bool.true_eq_false, Bool.not_true, Bool.not_false, true_and, and_true, false_and, and_false, not_true_eq_false, not_false_eq_true, forall_const, false_implies, true_implies, implies_true, decide_true, decide_false, or_self, false_or, or_false, true_or, or_true, hl, e0]
  generalize hR : pz s (s.length + 1) 0 = R
  refine AW_loopI (fun k env h1 => env.length = 54 ∧ env.getD 0 .undef = .str s ∧ ∃ (a f : Nat) (u : AV) (xs : List (Int × List UInt8)), env.getD 5 .undef = .int .i64 a ∧ env.getD 4 .undef = u ∧ RS 47 2 u h1 (xs.map ec) ∧ (∀ k n, u = .sl k 0 n 2 → h.n ≤ k) ∧
    a ≤ s.length ∧ k + a = s.length ∧ xs.length ≤ a ∧ s.length < f + a ∧ R = (pz s f a).map (fun l => xs ++ l) ∧ h.n ≤ h1.n ∧ ∀ k o, h.get k = some o → h1.get k = some o) ?_ s.length _ _ ?_ (by omega)
  · rintro k env1 h1 ⟨hl, e0, a, f, u, xs, e5, e4, hrs, hu, ha, hk, hxl, hf, hr, hn1, hfr⟩
    by_cases hlt : (a : Int) < s.length
    · obtain ⟨f, rfl⟩ : ∃ j, f = j + 1 := ⟨f - 1, by omega⟩
      obtain ⟨v1, g1, hc1, rfl, rfl⟩ := (U16_run (D := D) h47 h46 h16 (n - 1) (by omega) s a h1 (by omega)).out
      obtain ⟨v2, g2, hc2, rfl, rfl⟩ := (U16_run (D := D) h47 h46 h16 (n - 1) (by omega) s (a + 2 : Nat) g1 (by omega)).out
      have hnum : leNum (cutOf s (a + 2 : Nat) 2).1 < 65536 := Nat.lt_of_lt_of_eq (cut_num s (a + 2 : Nat) 2) (by decide)
      obtain ⟨v3, g3, hc3, rfl, rfl⟩ := (cut_run (D := D) h47 (n - 1) s (a + 4 : Nat) (leNum (cutOf s (a + 2 : Nat) 2).1) g2 (by omega)).out
      rw [show n - 1 + 1 = n by omega] at hc1 hc2 hc3
      have w2 : IntKind.i64.wrap ((a : Int) + 2) = ((a + 2 : Nat) : Int) := by rw [wrap_i64 (by omega) (by omega)]; omega
      have w4 : IntKind.i64.wrap ((a : Int) + 4) = ((a + 4 : Nat) : Int) := by rw [wrap_i64 (by omega) (by omega)]; omega
      simp only [pz, if_neg (by omega : ¬ s.length ≤ a)] at hr
      by_cases q1 : (cutOf s (a + 2 : Nat) 2).2 = 0
      · have p1 : ((cutOf s (a + 2 : Nat) 2).2 != 0) = false := by rw [q1]; rfl
        by_cases q2 : (cutOf s (a + 4 : Nat) (leNum (cutOf s (a + 2 : Nat) 2).1)).2 = 0
        · have p2 : ((cutOf s (a + 4 : Nat) (leNum (cutOf s (a + 2 : Nat) 2).1)).2 != 0) = false := by rw [q2]; rfl
          rw [if_pos ⟨q1, q2⟩] at hr
          have hok := cut_ok q2
          have w5 : IntKind.i64.wrap (4 + (leNum (cutOf s (a + 2 : Nat) 2).1 : Int)) = ((4 + leNum (cutOf s (a + 2 : Nat) 2).1 : Nat) : Int) := by rw [wrap_i64 (by omega) (by omega)]; omega
          have w6 : IntKind.i64.wrap ((a : Int) + ((4 + leNum (cutOf s (a + 2 : Nat) 2).1 : Nat) : Int)) = ((a + 4 + leNum (cutOf s (a + 2 : Nat) 2).1 : Nat) : Int) := by rw [wrap_i64 (by omega) (by omega)]; omega
          have bl := buildR rt35 (by omega) (ec (leNum (cutOf s (a : Nat) 2).1, (cutOf s (a + 4 : Nat) (leNum (cutOf s (a + 2 : Nat) 2).1)).1)) rfl g3
          obtain ⟨u', h2, hap, hrs2, hu2, hn2, hfr2⟩ := appendR rt35 hrs (fun x hx => by obtain ⟨y, _, rfl⟩ := List.mem_map.1 hx; rfl) (by rw [List.length_map]; omega) (ec (leNum (cutOf s (a : Nat) 2).1, (cutOf s (a + 4 : Nat) (leNum (cutOf s (a + 2 : Nat) 2).1)).1)) rfl rfl
          simp only [ec] at bl hap
          simp only [↓KP_nil, ↓KP_seq, ↓KP_seqE, ↓KP_seqR, ↓KP_block, ↓KP_blockE, ↓KP_blockR, ↓AW_skip, ↓AW_region, ↓AW_drawn, ↓AW_seq, ↓AW_cond, ↓AW_block, ↓AW_exit, ↓AW_scope, ↓AW_label, ↓AW_ret, ↓AW_loop, ↓AE_nil, ↓AE_step, ↓AE_guard, ↓KA_some, ↓KA_none, ↓CondK_true, ↓CondK_false, ↓GuardK_some, ↓GuardW_yes, ↓GuardW_tf, ↓GuardW_ft, ↓GuardW_undef, ↓dstAt_zero, ↓dstAt_succ, ↓AR_some, ↓AR_none, ↓AVK_some, ↓AVM_some, ↓AHK_some, CondK_true, CondK_false, GuardW_yes, GuardW_tf, GuardW_ft, GuardW_undef, Qfun_normal, Qfun_ret, Qloop_normal, Qloop_exit, Qloop_ret, AR_some, AR_none, AR_map, AR_mapH, AR_ite, AVK_some, AVK_none, AVK_map, AVK_ite, AVM_some, AVM_none, AHK_some, AHK_none, AHK_ite, aop, gs, List.length_set, evalOp, ofValue, ofCell, isConst, abin, aint, astrop, ashift, aun, acall1, abuiltin, alenOf, aresults, aresult, packed, List.nil_append, List.append_nil, List.map_cons, List.map_nil, List.getElem?_toArray, List.getElem?_cons_zero, List.getElem?_cons_succ, Option.bind_some, Option.map_some, Option.map_none, Nat.reduceEqDiff, Nat.reduceLT, Int.reduceLT, Int.reduceLE, Int.reduceGT, Int.reduceGE,  Nat.reduceAdd, Nat.reduceSub, ↓reduceIte, reduceCtorEq, Bool.false_eq_true, Bool.true_eq_false, Bool.not_true, Bool.not_false, true_and, and_true, false_and, and_false, not_true_eq_false, not_false_eq_true, forall_const, false_implies, true_implies, implies_true, decide_true, decide_false, or_self, false_or, or_false, true_or, or_true, hl, e0, e4, e5, Try.underlying9, hlt, hc1, w2, hc2, w4, hc3, p1, p2, build47, bl, hap, w5, w6]
          refine ⟨s.length - (a + 4 + leNum (cutOf s (a + 2 : Nat) 2).1), by omega, a + 4 + leNum (cutOf s (a + 2 : Nat) 2).1, f, u', xs ++ [((leNum (cutOf s (a : Nat) 2).1 : Int), (cutOf s (a + 4 : Nat) (leNum (cutOf s (a + 2 : Nat) 2).1)).1)], rfl, rfl, ?_, fun k n hk => Nat.le_trans hn1 (hu2 k n hk), by omega, by omega, ?_, by omega, ?_, Nat.le_trans hn1 hn2, fun k o hk => ?_⟩
          · rw [List.map_append]; exact hrs2
          · simp; omega
          · rw [hr, Option.map_map]
            congr 1
            funext l
            simp
          · exact hfr2 k o (hfr k o hk) fun m hh => by
              have := hu k m hh
              have := AH.get_lt hk
              omega
        · have p2 : ((cutOf s (a + 4 : Nat) (leNum (cutOf s (a + 2 : Nat) 2).1)).2 != 0) = true := bne_iff_ne.2 q2
          rw [if_neg (fun hh => q2 hh.2)] at hr
          simp only [↓KP_nil, ↓KP_seq, ↓KP_seqE, ↓KP_seqR, ↓KP_block, ↓KP_blockE, ↓KP_blockR, ↓AW_skip, ↓AW_region, ↓AW_drawn, ↓AW_seq, ↓AW_cond, ↓AW_block, ↓AW_exit, ↓AW_scope, ↓AW_label, ↓AW_ret, ↓AW_loop, ↓AE_nil, ↓AE_step, ↓AE_guard, ↓KA_some, ↓KA_none, ↓CondK_true, ↓CondK_false, ↓GuardK_some, ↓GuardW_yes, ↓GuardW_tf, ↓GuardW_ft, ↓GuardW_undef, ↓dstAt_zero, ↓dstAt_succ, ↓AR_some, ↓AR_none, ↓AVK_some, ↓AVM_some, ↓AHK_some, CondK_true, CondK_false, GuardW_yes, GuardW_tf, GuardW_ft, GuardW_undef, Qfun_normal, Qfun_ret, Qloop_normal, Qloop_exit, Qloop_ret, AR_some, AR_none, AR_map, AR_mapH, AR_ite, AVK_some, AVK_none, AVK_map, AVK_ite, AVM_some, AVM_none, AHK_some, AHK_none, AHK_ite, aop, gs, List.length_set, evalOp, ofValue, ofCell, isConst, abin, aint, astrop, ashift, aun, acall1, abuiltin, alenOf, aresults, aresult, packed, List.nil_append, List.append_nil, List.map_cons, List.map_nil, List.getElem?_toArray, List.getElem?_cons_zero, List.getElem?_cons_succ, Option.bind_some, Option.map_some, Option.map_none, Nat.reduceEqDiff, Nat.reduceLT, Int.reduceLT, Int.reduceLE, Int.reduceGT, Int.reduceGE,  Nat.reduceAdd, Nat.reduceSub, ↓reduceIte, reduceCtorEq, Bool.false_eq_true, Bool.true_eq_false, Bool.not_true, Bool.not_false, true_and, and_true, false_and, and_false, not_true_eq_false, not_false_eq_true, forall_const, false_implies, true_implies, implies_true, decide_true, decide_false, or_self, false_or, or_false, true_or, or_true, hl, e0, e4, e5, Try.underlying9, hlt, hc1, w2, hc2, w4, hc3, p1, p2]
          rw [hr]
          exact ⟨rfl, hn1, hfr⟩
      · have p1 : ((cutOf s (a + 2 : Nat) 2).2 != 0) = true := bne_iff_ne.2 q1
        rw [if_neg (fun hh => q1 hh.1)] at hr
        simp only [↓KP_nil, ↓KP_seq, ↓KP_seqE, ↓KP_seqR, ↓KP_block, ↓KP_blockE, ↓KP_blockR, ↓AW_skip, ↓AW_region, ↓AW_drawn, ↓AW_seq, ↓AW_cond, ↓AW_block, ↓AW_exit, ↓AW_scope, ↓AW_label, ↓AW_ret, ↓AW_loop, ↓AE_nil, ↓AE_step, ↓AE_guard, ↓KA_some, ↓KA_none, ↓CondK_true, ↓CondK_false, ↓GuardK_some, ↓GuardW_yes, ↓GuardW_tf, ↓GuardW_ft, ↓GuardW_undef, ↓dstAt_zero, ↓dstAt_succ, ↓AR_some, ↓AR_none, ↓AVK_some, ↓AVM_some, ↓AHK_some, CondK_true, CondK_false, GuardW_yes, GuardW_tf, GuardW_ft, GuardW_undef, Qfun_normal, Qfun_ret, Qloop_normal, Qloop_exit, Qloop_ret, AR_some, AR_none, AR_map, AR_mapH, AR_ite, AVK_some, AVK_none, AVK_map, AVK_ite, AVM_some, AVM_none, AHK_some, AHK_none, AHK_ite, aop, gs, List.length_set, evalOp, ofValue, ofCell, isConst, abin, aint, astrop, ashift, aun, acall1, abuiltin, alenOf, aresults, aresult, packed, List.nil_append, List.append_nil, List.map_cons, List.map_nil, List.getElem?_toArray, List.getElem?_cons_zero, List.getElem?_cons_succ, Option.bind_some, Option.map_some, Option.map_none, Nat.reduceEqDiff, Nat.reduceLT, Int.reduceLT, Int.reduceLE, Int.reduceGT, Int.reduceGE,  Nat.reduceAdd, Nat.reduceSub, ↓reduceIte, reduceCtorEq, Bool.false_eq_true, Bool.true_eq_false, Bool.not_true, Bool.not_false, true_and, and_true, false_and, and_false, not_true_eq_false, not_false_eq_true, forall_const, false_implies, true_implies, implies_true, decide_true, decide_false, or_self, false_or, or_false, true_or, or_true, hl, e0, e4, e5, Try.underlying9, hlt, hc1, w2, hc2, w4, hc3, p1]
        rw [hr]
        exact ⟨rfl, hn1, hfr⟩
    · have hpz : pz s f a = some [] := by
        cases f with
        | zero => rfl
        | succ f => simp only [pz, if_pos (by omega : s.length ≤ a)]
      rw [hpz] at hr
      simp only [↓KP_nil, ↓KP_seq, ↓KP_seqE, ↓KP_seqR, ↓KP_block, ↓KP_blockE, ↓KP_blockR, ↓AW_skip, ↓AW_region, ↓AW_drawn, ↓AW_seq, ↓AW_cond, ↓AW_block, ↓AW_exit, ↓AW_scope, ↓AW_label, ↓AW_ret, ↓AW_loop, ↓AE_nil, ↓AE_step, ↓AE_guard, ↓KA_some, ↓KA_none, ↓CondK_true, ↓CondK_false, ↓GuardK_some, ↓GuardW_yes, ↓GuardW_tf, ↓GuardW_ft, ↓GuardW_undef, ↓dstAt_zero, ↓dstAt_succ, ↓AR_some, ↓AR_none, ↓AVK_some, ↓AVM_some, ↓AHK_some, CondK_true, CondK_false, GuardW_yes, GuardW_tf, GuardW_ft, GuardW_undef, Qfun_normal, Qfun_ret, Qloop_normal, Qloop_exit, Qloop_ret, AR_some, AR_none, AR_map, AR_mapH, AR_ite, AVK_some, AVK_none, AVK_map, AVK_ite, AVM_some, AVM_none, AHK_some, AHK_none, AHK_ite, aop, gs, List.length_set, evalOp, ofValue, ofCell, isConst, abin, aint, astrop, ashift, aun, acall1, abuiltin, alenOf, aresults, aresult, packed, List.nil_append, List.append_nil, List.map_cons, List.map_nil, List.getElem?_toArray, List.getElem?_cons_zero, List.getElem?_cons_succ, Option.bind_some, Option.map_some, Option.map_none, Nat.reduceEqDiff, Nat.reduceLT, Int.reduceLT, Int.reduceLE, Int.reduceGT, Int.reduceGE,  Nat.reduceAdd, Nat.reduceSub, ↓reduceIte, reduceCtorEq, Bool.false_eq_true, Bool.true_eq_false, Bool.not_true, Bool.not_false, true_and, and_true, false_and, and_false, not_true_eq_false, not_false_eq_true, forall_const, false_implies, true_implies, implies_true, decide_true, decide_false, or_self, false_or, or_false, true_or, or_true, hl, e0, e4, e5, Try.underlying9, hlt]
      rw [hr]
      exact ⟨⟨u, rfl, by simpa using hrs, hu⟩, hn1, hfr⟩
  · simp only [↓KP_nil, ↓KP_seq, ↓KP_seqE, ↓KP_seqR, ↓KP_block, ↓KP_blockE, ↓KP_blockR, ↓AW_skip, ↓AW_region, ↓AW_drawn, ↓AW_seq, ↓AW_cond, ↓AW_block, ↓AW_exit, ↓AW_scope, ↓AW_label, ↓AW_ret, ↓AW_loop, ↓AE_nil, ↓AE_step, ↓AE_guard, ↓KA_some, ↓KA_none, ↓CondK_true, ↓CondK_false, ↓GuardK_some, ↓GuardW_yes, ↓GuardW_tf, ↓GuardW_ft, ↓GuardW_undef, ↓dstAt_zero, ↓dstAt_succ, ↓AR_some, ↓AR_none, ↓AVK_some, ↓AVM_some, ↓AHK_some, CondK_true, CondK_false, GuardW_yes, GuardW_tf, GuardW_ft, GuardW_undef, Qfun_normal, Qfun_ret, Qloop_normal, Qloop_exit, Qloop_ret, AR_some, AR_none, AR_map, AR_mapH, AR_ite, AVK_some, AVK_none, AVK_map, AVK_ite, AVM_some, AVM_none, AHK_some, AHK_none, AHK_ite, aop, gs, List.length_set, evalOp, ofValue, ofCell, isConst, abin, aint, astrop, ashift, aun, acall1, abuiltin, alenOf, aresults, aresult, packed, List.nil_append, List.append_nil, List.map_cons, List.map_nil, List.getElem?_toArray, List.getElem?_cons_zero, List.getElem?_cons_succ, Option.bind_some, Option.map_some, Option.map_none, Nat.reduceEqDiff, Nat.reduceLT, Int.reduceLT, Int.reduceLE, Int.reduceGT, Int.reduceGE,  Nat.reduceAdd, Nat.reduceSub, ↓reduceIte, reduceCtorEq, Bool.false_eq_true, Bool.true_eq_false, Bool.not_true, Bool.not_false, true_and, and_true, false_and, and_false, not_true_eq_false, not_false_eq_true, forall_const, false_implies, true_implies, implies_true, decide_true, decide_false, or_self, false_or, or_false, true_or, or_true, hl, e0]
    exact ⟨0, s.length + 1, _, [], rfl, rfl, .inl ⟨rfl, rfl⟩, fun k n hh => (by cases hh), by omega, by omega, by simp, by omega, by rw [hR]; cases R <;> simp, Nat.le_refl _, fun k o hk => hk⟩
set_option maxRecDepth 100000 in
set_option maxHeartbeats 2000000 in
theorem RefParse_run (h49 : Γ 49 = none) (h53 : Γ 53 = none) (h48 : Γ 48 = none) (h22 : Γ 22 = none) (n : Nat) (s : List UInt8) (hs : s.length < 100000) (hn : s.length + 20 ≤ n) (h : AH) :
    AR (acall Try.prog Γ D (n + 1) 22 [.str s] h) fun v h' => ParseSaid h (pz s (s.length + 1) 0) v h' := by
  refine AR_call h22 Try.func22 rfl _ _ fun env hl he => ?_
  have e0 := he 0
  simp only [List.getD_cons_zero, List.getD_cons_succ] at e0
  simp only [Try.f22] at hl ⊢
  simp only [List.length_cons, List.length_nil, Nat.reduceAdd, Nat.reduceSub] at hl
  simp only [↓KP_nil, ↓KP_seq, ↓KP_seqE, ↓KP_seqR, ↓KP_block, ↓KP_blockE, ↓KP_blockR, ↓AW_skip, ↓AW_region, ↓AW_drawn, ↓AW_seq, ↓AW_cond, ↓AW_block, ↓AW_exit, ↓AW_scope, ↓AW_label, ↓AW_ret, ↓AW_loop, ↓AE_nil, ↓AE_step, ↓AE_guard, ↓KA_some, ↓KA_none, ↓CondK_true, ↓CondK_false, ↓GuardK_some, ↓GuardW_yes, ↓GuardW_tf, ↓GuardW_ft, ↓GuardW_undef, ↓dstAt_zero, ↓dstAt_succ, ↓AR_some, ↓AR_none, ↓AVK_some, ↓AVM_some, ↓AHK_some, CondK_true, CondK_false, GuardW_yes, GuardW_tf, GuardW_ft, GuardW_undef, Qfun_normal, Qfun_ret, Qloop_normal, Qloop_exit, Qloop_ret, AR_some, AR_none, AR_map, AR_mapH, AR_ite, AVK_some, AVK_none, AVK_map, AVK_ite, AVM_some, AVM_none, AHK_some, AHK_none, AHK_ite, aop, gs, List.length_set, evalOp, ofValue, ofCell, isConst, abin, aint, astrop, ashift, aun, acall1, abuiltin, alenOf, aresults, aresult, packed, List.nil_append, List.append_nil, List.map_cons, List.map_nil, List.getElem?_toArray, List.getElem?_cons_zero, List.getElem?_cons_succ, Option.bind_some, Option.map_some, Option.map_none, Nat.reduceEqDiff, Nat.reduceLT, Int.reduceLT, Int.reduceLE, Int.reduceGT, Int.reduceGE,  Nat.reduceAdd, Nat.reduceSub, ↓reduceIte, reduceCtorEq, Bool.false_eq_true, Bool.true_eq_false, Bool.not_true, Bool.not_false, true_and, and_true, false_and, and_false, not_true_eq_false, not_false_eq_true, forall_const, false_implies, true_implies, implies_true, decide_true, decide_false, or_self, false_or, or_false, true_or, or_true, hl, e0]
  generalize hR : pz s (s.length + 1) 0 = R
  refine AW_loopI (fun k env h1 => env.length = 45 ∧ env.getD 0 .undef = .str s ∧ ∃ (a f : Nat) (u : AV) (xs : List (Int × List UInt8)), env.getD 5 .undef = .int .i64 a ∧ env.getD 4 .undef = u ∧ RS 47 2 u h1 (xs.map ec) ∧ (∀ k n, u = .sl k 0 n 2 → h.n ≤ k) ∧
    a ≤ s.length ∧ k + a = s.length ∧ xs.length ≤ a ∧ s.length < f + a ∧ R = (pz s f a).map (fun l => xs ++ l) ∧ h.n ≤ h1.n ∧ ∀ k o, h.get k = some o → h1.get k = some o) ?_ s.length _ _ ?_ (by omega)
  · rintro k env1 h1 ⟨hl, e0, a, f, u, xs, e5, e4, hrs, hu, ha, hk, hxl, hf, hr, hn1, hfr⟩
    by_cases hlt : (a : Int) < s.length
    · obtain ⟨f, rfl⟩ : ∃ j, f = j + 1 := ⟨f - 1, by omega⟩
      obtain ⟨v1, g1, hc1, rfl, rfl⟩ := (RefU16_run (D := D) h49 h53 h48 (n - 1) (by omega) s a h1 (by omega)).out
      obtain ⟨v2, g2, hc2, rfl, rfl⟩ := (RefU16_run (D := D) h49 h53 h48 (n - 1) (by omega) s (a + 2 : Nat) g1 (by omega)).out
      have hnum : leNum (cutOf s (a + 2 : Nat) 2).1 < 65536 := Nat.lt_of_lt_of_eq (cut_num s (a + 2 : Nat) 2) (by decide)
      obtain ⟨v3, g3, hc3, rfl, rfl⟩ := (RefCut_run (D := D) h49 (n - 1) s (a + 4 : Nat) (leNum (cutOf s (a + 2 : Nat) 2).1) g2 (by omega)).out
      rw [show n - 1 + 1 = n by omega] at hc1 hc2 hc3
      have w2 : IntKind.i64.wrap ((a : Int) + 2) = ((a + 2 : Nat) : Int) := by rw [wrap_i64 (by omega) (by omega)]; omega
      have w4 : IntKind.i64.wrap ((a : Int) + 4) = ((a + 4 : Nat) : Int) := by rw [wrap_i64 (by omega) (by omega)]; omega
      simp only [pz, if_neg (by omega : ¬ s.length ≤ a)] at hr
      have w1 : IntKind.i64.wrap ((s.length : Int) - (a : Int)) = ((s.length - a : Nat) : Int) := by rw [wrap_i64 (by omega) (by omega)]; omega
      by_cases q1 : (cutOf s (a + 2 : Nat) 2).2 = 0
      · have hok1 := cut_ok q1
        have p1 : ¬ ((s.length - a : Nat) : Int) < 4 := by omega
        by_cases q2 : (cutOf s (a + 4 : Nat) (leNum (cutOf s (a + 2 : Nat) 2).1)).2 = 0
        · have p2 : ((cutOf s (a + 4 : Nat) (leNum (cutOf s (a + 2 : Nat) 2).1)).2 != 0) = false := by rw [q2]; rfl
          rw [if_pos ⟨q1, q2⟩] at hr
          have hok := cut_ok q2
          have w5 : IntKind.i64.wrap (((a + 4 : Nat) : Int) + (leNum (cutOf s (a + 2 : Nat) 2).1 : Int)) = ((a + 4 + leNum (cutOf s (a + 2 : Nat) 2).1 : Nat) : Int) := by rw [wrap_i64 (by omega) (by omega)]; omega
          have bl := buildR rt35 (by omega) (ec (leNum (cutOf s (a : Nat) 2).1, (cutOf s (a + 4 : Nat) (leNum (cutOf s (a + 2 : Nat) 2).1)).1)) rfl g3
          obtain ⟨u', h2, hap, hrs2, hu2, hn2, hfr2⟩ := appendR rt35 hrs (fun x hx => by obtain ⟨y, _, rfl⟩ := List.mem_map.1 hx; rfl) (by rw [List.length_map]; omega) (ec (leNum (cutOf s (a : Nat) 2).1, (cutOf s (a + 4 : Nat) (leNum (cutOf s (a + 2 : Nat) 2).1)).1)) rfl rfl
          simp only [ec] at bl hap
          simp only [↓KP_nil, ↓KP_seq, ↓KP_seqE, ↓KP_seqR, ↓KP_block, ↓KP_blockE, ↓KP_blockR, ↓AW_skip, ↓AW_region, ↓AW_drawn, ↓AW_seq, ↓AW_cond, ↓AW_block, ↓AW_exit, ↓AW_scope, ↓AW_label, ↓AW_ret, ↓AW_loop, ↓AE_nil, ↓AE_step, ↓AE_guard, ↓KA_some, ↓KA_none, ↓CondK_true, ↓CondK_false, ↓GuardK_some, ↓GuardW_yes, ↓GuardW_tf, ↓GuardW_ft, ↓GuardW_undef, ↓dstAt_zero, ↓dstAt_succ, ↓AR_some, ↓AR_none, ↓AVK_some, ↓AVM_some, ↓AHK_some, CondK_true, CondK_false, GuardW_yes, GuardW_tf, GuardW_ft, GuardW_undef, Qfun_normal, Qfun_ret, Qloop_normal, Qloop_exit, Qloop_ret, AR_some, AR_none, AR_map, AR_mapH, AR_ite, AVK_some, AVK_none, AVK_map, AVK_ite, AVM_some, AVM_none, AHK_some, AHK_none, AHK_ite, aop, gs, List.length_set, evalOp, ofValue, ofCell, isConst, abin, aint, astrop, ashift, aun, acall1, abuiltin, alenOf, aresults, aresult, packed, List.nil_append, List.append_nil, List.map_cons, List.map_nil, List.getElem?_toArray, List.getElem?_cons_zero, List.getElem?_cons_succ, Option.bind_some, Option.map_some, Option.map_none, Nat.reduceEqDiff, Nat.reduceLT, Int.reduceLT, Int.reduceLE, Int.reduceGT, Int.reduceGE,  Nat.reduceAdd, Nat.reduceSub, ↓reduceIte, reduceCtorEq, Bool.false_eq_true, Bool.true_eq_false, Bool.not_true, Bool.not_false, true_and, and_true, false_and, and_false, not_true_eq_false, not_false_eq_true, forall_const, false_implies, true_implies, implies_true, decide_true, decide_false, or_self, false_or, or_false, true_or, or_true, hl, e0, e4, e5, Try.underlying9, hlt, hc1, w2, hc2, w4, hc3, p1, p2, build47, bl, hap, w5, w1]
          refine ⟨s.length - (a + 4 + leNum (cutOf s (a + 2 : Nat) 2).1), by omega, a + 4 + leNum (cutOf s (a + 2 : Nat) 2).1, f, u', xs ++ [((leNum (cutOf s (a : Nat) 2).1 : Int), (cutOf s (a + 4 : Nat) (leNum (cutOf s (a + 2 : Nat) 2).1)).1)], rfl, rfl, ?_, fun k n hk => Nat.le_trans hn1 (hu2 k n hk), by omega, by omega, ?_, by omega, ?_, Nat.le_trans hn1 hn2, fun k o hk => ?_⟩
          · rw [List.map_append]; exact hrs2
          · simp; omega
          · rw [hr, Option.map_map]
            congr 1
            funext l
            simp
          · exact hfr2 k o (hfr k o hk) fun m hh => by
              have := hu k m hh
              have := AH.get_lt hk
              omega
        · have p2 : ((cutOf s (a + 4 : Nat) (leNum (cutOf s (a + 2 : Nat) 2).1)).2 != 0) = true := bne_iff_ne.2 q2
          rw [if_neg (fun hh => q2 hh.2)] at hr
          simp only [↓KP_nil, ↓KP_seq, ↓KP_seqE, ↓KP_seqR, ↓KP_block, ↓KP_blockE, ↓KP_blockR, ↓AW_skip, ↓AW_region, ↓AW_drawn, ↓AW_seq, ↓AW_cond, ↓AW_block, ↓AW_exit, ↓AW_scope, ↓AW_label, ↓AW_ret, ↓AW_loop, ↓AE_nil, ↓AE_step, ↓AE_guard, ↓KA_some, ↓KA_none, ↓CondK_true, ↓CondK_false, ↓GuardK_some, ↓GuardW_yes, ↓GuardW_tf, ↓GuardW_ft, ↓GuardW_undef, ↓dstAt_zero, ↓dstAt_succ, ↓AR_some, ↓AR_none, ↓AVK_some, ↓AVM_some, ↓AHK_some, CondK_true, CondK_false, GuardW_yes, GuardW_tf, GuardW_ft, GuardW_undef, Qfun_normal, Qfun_ret, Qloop_normal, Qloop_exit, Qloop_ret, AR_some, AR_none, AR_map, AR_mapH, AR_ite, AVK_some, AVK_none, AVK_map, AVK_ite, AVM_some, AVM_none, AHK_some, AHK_none, AHK_ite, aop, gs, List.length_set, evalOp, ofValue, ofCell, isConst, abin, aint, astrop, ashift, aun, acall1, abuiltin, alenOf, aresults, aresult, packed, List.nil_append, List.append_nil, List.map_cons, List.map_nil, List.getElem?_toArray, List.getElem?_cons_zero, List.getElem?_cons_succ, Option.bind_some, Option.map_some, Option.map_none, Nat.reduceEqDiff, Nat.reduceLT, Int.reduceLT, Int.reduceLE, Int.reduceGT, Int.reduceGE,  Nat.reduceAdd, Nat.reduceSub, ↓reduceIte, reduceCtorEq, Bool.false_eq_true, Bool.true_eq_false, Bool.not_true, Bool.not_false, true_and, and_true, false_and, and_false, not_true_eq_false, not_false_eq_true, forall_const, false_implies, true_implies, implies_true, decide_true, decide_false, or_self, false_or, or_false, true_or, or_true, hl, e0, e4, e5, Try.underlying9, hlt, hc1, w2, hc2, w4, hc3, p1, p2, w1]
          rw [hr]
          exact ⟨rfl, hn1, hfr⟩
      · have p1 : ((s.length - a : Nat) : Int) < 4 := by
          rcases Nat.lt_or_ge (s.length - a) 4 with hh | hh
          · omega
          · exfalso
            apply q1
            unfold cutOf
            rw [if_neg (by omega)]
        rw [if_neg (fun hh => q1 hh.1)] at hr
        simp only [↓KP_nil, ↓KP_seq, ↓KP_seqE, ↓KP_seqR, ↓KP_block, ↓KP_blockE, ↓KP_blockR, ↓AW_skip, ↓AW_region, ↓AW_drawn, ↓AW_seq, ↓AW_cond, ↓AW_block, ↓AW_exit, ↓AW_scope, ↓AW_label, ↓AW_ret, ↓AW_loop, ↓AE_nil, ↓AE_step, ↓AE_guard, ↓KA_some, ↓KA_none, ↓CondK_true, ↓CondK_false, ↓GuardK_some, ↓GuardW_yes, ↓GuardW_tf, ↓GuardW_ft, ↓GuardW_undef, ↓dstAt_zero, ↓dstAt_succ, ↓AR_some, ↓AR_none, ↓AVK_some, ↓AVM_some, ↓AHK_some, CondK_true, CondK_false, GuardW_yes, GuardW_tf, GuardW_ft, GuardW_undef, Qfun_normal, Qfun_ret, Qloop_normal, Qloop_exit, Qloop_ret, AR_some, AR_none, AR_map, AR_mapH, AR_ite, AVK_some, AVK_none, AVK_map, AVK_ite, AVM_some, AVM_none, AHK_some, AHK_none, AHK_ite, aop, gs, List.length_set, evalOp, ofValue, ofCell, isConst, abin, aint, astrop, ashift, aun, acall1, abuiltin, alenOf, aresults, aresult, packed, List.nil_append, List.append_nil, List.map_cons, List.map_nil, List.getElem?_toArray, List.getElem?_cons_zero, List.getElem?_cons_succ, Option.bind_some, Option.map_some, Option.map_none, Nat.reduceEqDiff, Nat.reduceLT, Int.reduceLT, Int.reduceLE, Int.reduceGT, Int.reduceGE,  Nat.reduceAdd, Nat.reduceSub, ↓reduceIte, reduceCtorEq, Bool.false_eq_true, Bool.true_eq_false, Bool.not_true, Bool.not_false, true_and, and_true, false_and, and_false, not_true_eq_false, not_false_eq_true, forall_const, false_implies, true_implies, implies_true, decide_true, decide_false, or_self, false_or, or_false, true_or, or_true, hl, e0, e4, e5, Try.underlying9, hlt, w1, p1]
        rw [hr]
        exact ⟨rfl, hn1, hfr⟩
    · have hpz : pz s f a = some [] := by
        cases f with
        | zero => rfl
        | succ f => simp only [pz, if_pos (by omega : s.length ≤ a)]
      rw [hpz] at hr
      simp only [↓KP_nil, ↓KP_seq, ↓KP_seqE, ↓KP_seqR, ↓KP_block, ↓KP_blockE, ↓KP_blockR, ↓AW_skip, ↓AW_region, ↓AW_drawn, ↓AW_seq, ↓AW_cond, ↓AW_block, ↓AW_exit, ↓AW_scope, ↓AW_label, ↓AW_ret, ↓AW_loop, ↓AE_nil, ↓AE_step, ↓AE_guard, ↓KA_some, ↓KA_none, ↓CondK_true, ↓CondK_false, ↓GuardK_some, ↓GuardW_yes, ↓GuardW_tf, ↓GuardW_ft, ↓GuardW_undef, ↓dstAt_zero, ↓dstAt_succ, ↓AR_some, ↓AR_none, ↓AVK_some, ↓AVM_some, ↓AHK_some, CondK_true, CondK_false, GuardW_yes, GuardW_tf, GuardW_ft, GuardW_undef, Qfun_normal, Qfun_ret, Qloop_normal, Qloop_exit, Qloop_ret, AR_some, AR_none, AR_map, AR_mapH, AR_ite, AVK_some, AVK_none, AVK_map, AVK_ite, AVM_some, AVM_none, AHK_some, AHK_none, AHK_ite, aop, gs, List.length_set, evalOp, ofValue, ofCell, isConst, abin, aint, astrop, ashift, aun, acall1, abuiltin, alenOf, aresults, aresult, packed, List.nil_append, List.append_nil, List.map_cons, List.map_nil, List.getElem?_toArray, List.getElem?_cons_zero, List.getElem?_cons_succ, Option.bind_some, Option.map_some, Option.map_none, Nat.reduceEqDiff, Nat.reduceLT, Int.reduceLT, Int.reduceLE, Int.reduceGT, Int.reduceGE,  Nat.reduceAdd, Nat.reduceSub, ↓reduceIte, reduceCtorEq, Bool.false_eq_true, Bool.true_eq_false, Bool.not_true, Bool.not_false, true_and, and_true, false_and, and_false, not_true_eq_false, not_false_eq_true, forall_const, false_implies, true_implies, implies_true, decide_true, decide_false, or_self, false_or, or_false, true_or, or_true, hl, e0, e4, e5, Try.underlying9, hlt]
      rw [hr]
      exact ⟨⟨u, rfl, by simpa using hrs, hu⟩, hn1, hfr⟩
  · simp only [↓KP_nil, ↓KP_seq, ↓KP_seqE, ↓KP_seqR, ↓KP_block, ↓KP_blockE, ↓KP_blockR, ↓AW_skip, ↓AW_region, ↓AW_drawn, ↓AW_seq, ↓AW_cond, ↓AW_block, ↓AW_exit, ↓AW_scope, ↓AW_label, ↓AW_ret, ↓AW_loop, ↓AE_nil, ↓AE_step, ↓AE_guard, ↓KA_some, ↓KA_none, ↓CondK_true, ↓CondK_false, ↓GuardK_some, ↓GuardW_yes, ↓GuardW_tf, ↓GuardW_ft, ↓GuardW_undef, ↓dstAt_zero, ↓dstAt_succ, ↓AR_some, ↓AR_none, ↓AVK_some, ↓AVM_some, ↓AHK_some, CondK_true, CondK_false, GuardW_yes, GuardW_tf, GuardW_ft, GuardW_undef, Qfun_normal, Qfun_ret, Qloop_normal, Qloop_exit, Qloop_ret, AR_some, AR_none, AR_map, AR_mapH, AR_ite, AVK_some, AVK_none, AVK_map, AVK_ite, AVM_some, AVM_none, AHK_some, AHK_none, AHK_ite, aop, gs, List.length_set, evalOp, ofValue, ofCell, isConst, abin, aint, astrop, ashift, aun, acall1, abuiltin, alenOf, aresults, aresult, packed, List.nil_append, List.append_nil, List.map_cons, List.map_nil, List.getElem?_toArray, List.getElem?_cons_zero, List.getElem?_cons_succ, Option.bind_some, Option.map_some, Option.map_none, Nat.reduceEqDiff, Nat.reduceLT, Int.reduceLT, Int.reduceLE, Int.reduceGT, Int.reduceGE,  Nat.reduceAdd, Nat.reduceSub, ↓reduceIte, reduceCtorEq, Bool.false_eq_true, Bool.true_eq_false, Bool.not_true, Bool.not_false, true_and, and_true, false_and, and_false, not_true_eq_false, not_false_eq_true, forall_const, false_implies, true_implies, implies_true, decide_true, decide_false, or_self, false_or, or_false, true_or, or_true, hl, e0]
    exact ⟨0, s.length + 1, _, [], rfl, rfl, .inl ⟨rfl, rfl⟩, fun k n hh => (by cases hh), by omega, by omega, by simp, by omega, by rw [hR]; cases R <;> simp, Nat.le_refl _, fun k o hk => hk⟩
end Go.Proofs.YtikkpmmhejjpaaaM
