/- The law ExtraAny, its function gone through by the machine: it answers true for every text and number. -/
import Derived.Test.YtikkpmmhejjpaaaQ17
set_option linter.unusedSimpArgs false
set_option linter.unusedVariables false
namespace Go.Proofs.YtikkpmmhejjpaaaM
open Go Go.RowKit

theorem T17ok {B : Nat} : PTabOK Try.prog B T17 := by
  intro f p hp
  unfold T17 at hp
  split at hp
  · rename_i e; subst e; cases hp; exact h13
  split at hp
  · rename_i e; subst e; cases hp; exact h14
  split at hp
  · rename_i e; subst e; cases hp; exact h15
  split at hp
  · rename_i e; subst e; cases hp; exact h19
  · cases hp
noncomputable def D17 : Drawn := drawnOf Try.prog T17
theorem D17ok {B : Nat} : ∀ callF, CallOK Try.prog B callF → DrawnOK Try.prog B (D17 callF) := drawnOf_ok (by kernel_rfl) T17ok
noncomputable def G77 : Hooks := G0.add 77 handsBack
theorem G77ok {B : Nat} : HooksOK Try.prog B G77 := HooksOK.none.add (HookOK.noEscape Try.func77 (by kernel_rfl) (by kernel_rfl) (by kernel_rfl) rfl)
theorem awake17 : (acall Try.prog G77 D17 200 20 [] ⟨0, []⟩).map (·.1) = some (.bool true) := by kernel_rfl
def k20 : List AV → Option AV
  | [] => some (.bool true)
  | _ => none
theorem h20 {B : Nat} : HookOK Try.prog B 20 (lift k20) := by
  refine HookOK.apart (Γ := G77) (D := D17) G77ok D17ok noGoroutine 20 k20 ?_
  intro args v hk
  unfold k20 at hk
  split at hk <;> cases hk
  exact ⟨rfl, rfl, 200, ex_of awake17⟩
noncomputable def GL : Hooks := G77.add 20 (lift k20)
theorem GLok {B : Nat} : HooksOK Try.prog B GL := G77ok.add h20
theorem c20 (n : Nat) (h : AH) : acall Try.prog GL D17 n 20 [] h = some (.bool true, h) := acall_hook (g := lift k20) rfl _ _ _
theorem neq4 (b : Bool) : aeqOp Try.prog .neq 4 false false (.bool b) (.bool b) = some (.bool false) := by cases b <;> kernel_rfl
theorem eql4 (b : Bool) : aeqOp Try.prog .eql 4 false false (.bool b) (.bool b) = some (.bool true) := by cases b <;> kernel_rfl
theorem pz_len (s : List UInt8) : ∀ (f a : Nat) (l : List (Int × List UInt8)), pz s f a = some l → l.length ≤ f
  | 0, a, l, h => by simp only [pz] at h; cases h; simp
  | f + 1, a, l, h => by
    rw [pz] at h
    split at h
    · cases h; simp
    · split at h
      · cases hl : pz s f (a + 4 + leNum (cutOf s (a + 2 : Nat) 2).1) with
        | none => rw [hl] at h; cases h
        | some l' => rw [hl] at h; cases h; have := pz_len s f _ l' hl; simp; omega
      · cases h

set_option maxRecDepth 100000 in
set_option maxHeartbeats 4000000 in
theorem law4_run (s : List UInt8) (id : Int) : AR (acall Try.prog GL D17 1001 4 [.str s, .int .i64 id] ⟨0, []⟩) fun v h' => v = .bool true := by
  refine AR_call rfl Try.func4 rfl _ _ fun env hl he => ?_
  have e0 := he 0; have e1 := he 1
  simp only [List.getD_cons_zero, List.getD_cons_succ] at e0 e1
  simp only [Try.f4] at hl ⊢
  simp only [List.length_cons, List.length_nil, Nat.reduceAdd, Nat.reduceSub] at hl
  have a20 := c20 1000
  have bs : ∀ l : List UInt8, (l == l) = true := fun l => beq_self_eq_true l
  have bi : ∀ i : Int, (i != i) = false := fun i => by simp
  have bj : ∀ i : Int, (i == i) = true := fun i => by simp
  by_cases c1 : (s.length : Int) > 200
  · simp only [↓KP_nil, ↓KP_seq, ↓KP_seqE, ↓KP_seqR, ↓KP_block, ↓KP_blockE, ↓KP_blockR, ↓AW_skip, ↓AW_region, ↓AW_drawn, ↓AW_seq, ↓AW_cond, ↓AW_block, ↓AW_exit, ↓AW_scope, ↓AW_label, ↓AW_ret, ↓AW_loop, ↓AE_nil, ↓AE_step, ↓AE_guard, ↓KA_some, ↓KA_none, ↓CondK_true, ↓CondK_false, ↓GuardK_some, ↓GuardW_yes, ↓GuardW_tf, ↓GuardW_ft, ↓GuardW_undef, ↓dstAt_zero, ↓dstAt_succ, ↓AR_some, ↓AR_none, ↓AVK_some, ↓AVM_some, ↓AHK_some, CondK_true, CondK_false, GuardW_yes, GuardW_tf, GuardW_ft, GuardW_undef, Qfun_normal, Qfun_ret, Qloop_normal, Qloop_exit, Qloop_ret, AR_some, AR_none, AR_map, AR_mapH, AR_ite, AVK_some, AVK_none, AVK_map, AVK_ite, AVM_some, AVM_none, AHK_some, AHK_none, AHK_ite, aop, gs, List.length_set, evalOp, ofValue, ofCell, isConst, abin, aint, astrop, ashift, aun, acall1, abuiltin, alenOf, aresults, aresult, packed, List.nil_append, List.append_nil, List.map_cons, List.map_nil, List.getElem?_toArray, List.getElem?_cons_zero, List.getElem?_cons_succ, Option.bind_some, Option.map_some, Option.map_none, Nat.reduceEqDiff, Nat.reduceLT, Int.reduceLT, Int.reduceLE, Int.reduceGT, Int.reduceGE,  Nat.reduceAdd, Nat.reduceSub, ↓reduceIte, reduceCtorEq, Bool.false_eq_true, Bool.true_eq_false, Bool.not_true, Bool.not_false, true_and, and_true, false_and, and_false, not_true_eq_false, not_false_eq_true, forall_const, false_implies, true_implies, implies_true, decide_true, decide_false, or_self, false_or, or_false, true_or, or_true, hl, e0, e1, Try.underlying9, a20, c1]
  obtain ⟨v1, g1, hc1, hp1⟩ := (Parse_run (Γ := GL) (D := D17) rfl rfl rfl rfl 999 s (by omega) (by omega) ⟨0, []⟩).out
  obtain ⟨v2, g2, hc2, hp2⟩ := (RefParse_run (Γ := GL) (D := D17) rfl rfl rfl rfl 999 s (by omega) (by omega) g1).out
  cases hR : pz s (s.length + 1) 0 with
  | none =>
    rw [hR] at hp1 hp2
    obtain ⟨rfl, _, _⟩ := hp1
    obtain ⟨rfl, hn2, hf2⟩ := hp2
    have r0 : ∀ g : AH, RS 47 2 (.val (.slice none 0 0)) g (([] : List (Int × List UInt8)).map ec) := fun g => .inl ⟨rfl, rfl⟩
    obtain ⟨v3, g3, hc3, rfl, rfl⟩ := (same_run (Γ := GL) (T := T17) rfl 999 (r0 g2) (r0 g2) (by simp) (by simp) (by simp)).out
    obtain ⟨v4, g4, hc4, rfl, hn4, hf4⟩ := (Find_run (Γ := GL) (D := D17) rfl 999 (r0 g3) (by simp) (by simp) id).out
    obtain ⟨v5, g5, hc5, rfl, rfl⟩ := (RefFind_run (Γ := GL) (D := D17) rfl 999 (r0 g4) (by simp) (by simp) id).out
    simp only [Nat.reduceAdd] at hc1 hc2 hc3 hc4 hc5
    have hc3' : acall Try.prog GL D17 1000 23 [.val (.slice none 0 0), .val (.slice none 0 0)] g3 = _ := hc3
    have q2 : ((2 : Int) != 0) = true := by decide
    simp only [↓KP_nil, ↓KP_seq, ↓KP_seqE, ↓KP_seqR, ↓KP_block, ↓KP_blockE, ↓KP_blockR, ↓AW_skip, ↓AW_region, ↓AW_drawn, ↓AW_seq, ↓AW_cond, ↓AW_block, ↓AW_exit, ↓AW_scope, ↓AW_label, ↓AW_ret, ↓AW_loop, ↓AE_nil, ↓AE_step, ↓AE_guard, ↓KA_some, ↓KA_none, ↓CondK_true, ↓CondK_false, ↓GuardK_some, ↓GuardW_yes, ↓GuardW_tf, ↓GuardW_ft, ↓GuardW_undef, ↓dstAt_zero, ↓dstAt_succ, ↓AR_some, ↓AR_none, ↓AVK_some, ↓AVM_some, ↓AHK_some, CondK_true, CondK_false, GuardW_yes, GuardW_tf, GuardW_ft, GuardW_undef, Qfun_normal, Qfun_ret, Qloop_normal, Qloop_exit, Qloop_ret, AR_some, AR_none, AR_map, AR_mapH, AR_ite, AVK_some, AVK_none, AVK_map, AVK_ite, AVM_some, AVM_none, AHK_some, AHK_none, AHK_ite, aop, gs, List.length_set, evalOp, ofValue, ofCell, isConst, abin, aint, astrop, ashift, aun, acall1, abuiltin, alenOf, aresults, aresult, packed, List.nil_append, List.append_nil, List.map_cons, List.map_nil, List.getElem?_toArray, List.getElem?_cons_zero, List.getElem?_cons_succ, Option.bind_some, Option.map_some, Option.map_none, Nat.reduceEqDiff, Nat.reduceLT, Int.reduceLT, Int.reduceLE, Int.reduceGT, Int.reduceGE,  Nat.reduceAdd, Nat.reduceSub, ↓reduceIte, reduceCtorEq, Bool.false_eq_true, Bool.true_eq_false, Bool.not_true, Bool.not_false, true_and, and_true, false_and, and_false, not_true_eq_false, not_false_eq_true, forall_const, false_implies, true_implies, implies_true, decide_true, decide_false, or_self, false_or, or_false, true_or, or_true, hl, e0, e1, Try.underlying9, a20, c1, hc1, hc2, hc3', hc4, hc5, bs, bi, bj, neq4, eql4, q2]
  | some l =>
    rw [hR] at hp1 hp2
    obtain ⟨⟨u1, rfl, hr1, _⟩, _, _⟩ := hp1
    obtain ⟨⟨u2, rfl, hr2, _⟩, hn2, hf2⟩ := hp2
    have hl2 := pz_len s _ _ l hR
    have hr1' := hr1.keep hf2
    obtain ⟨v3, g3, hc3, rfl, rfl⟩ := (same_run (Γ := GL) (T := T17) rfl 999 hr1' hr2 (by omega) (by omega) (by omega)).out
    obtain ⟨v4, g4, hc4, rfl, hn4, hf4⟩ := (Find_run (Γ := GL) (D := D17) rfl 999 hr2 (by omega) (by omega) id).out
    obtain ⟨v5, g5, hc5, rfl, rfl⟩ := (RefFind_run (Γ := GL) (D := D17) rfl 999 (hr2.keep hf4) (by omega) (by omega) id).out
    obtain ⟨v6, g6, hc6, rfl, hn6, hf6⟩ := (Put_run (Γ := GL) rfl rfl rfl rfl rfl rfl 999 (hr1'.keep hf4) (by omega) (by omega)).out
    have hput := pt_pz s (by omega) _ 0 l [] hR (by omega) (by omega) (by simp; omega)
    rw [List.drop_zero, List.nil_append] at hput
    rw [hput] at hc6
    simp only [Nat.reduceAdd] at hc1 hc2 hc3 hc4 hc5 hc6
    have hc3' : acall Try.prog GL D17 1000 23 [u1, u2] g3 = _ := hc3
    have hc6' : acall Try.prog GL D17 1000 26 [u1] g5 = _ := hc6
    have q0 : ((0 : Int) != 0) = false := by decide
    simp only [↓KP_nil, ↓KP_seq, ↓KP_seqE, ↓KP_seqR, ↓KP_block, ↓KP_blockE, ↓KP_blockR, ↓AW_skip, ↓AW_region, ↓AW_drawn, ↓AW_seq, ↓AW_cond, ↓AW_block, ↓AW_exit, ↓AW_scope, ↓AW_label, ↓AW_ret, ↓AW_loop, ↓AE_nil, ↓AE_step, ↓AE_guard, ↓KA_some, ↓KA_none, ↓CondK_true, ↓CondK_false, ↓GuardK_some, ↓GuardW_yes, ↓GuardW_tf, ↓GuardW_ft, ↓GuardW_undef, ↓dstAt_zero, ↓dstAt_succ, ↓AR_some, ↓AR_none, ↓AVK_some, ↓AVM_some, ↓AHK_some, CondK_true, CondK_false, GuardW_yes, GuardW_tf, GuardW_ft, GuardW_undef, Qfun_normal, Qfun_ret, Qloop_normal, Qloop_exit, Qloop_ret, AR_some, AR_none, AR_map, AR_mapH, AR_ite, AVK_some, AVK_none, AVK_map, AVK_ite, AVM_some, AVM_none, AHK_some, AHK_none, AHK_ite, aop, gs, List.length_set, evalOp, ofValue, ofCell, isConst, abin, aint, astrop, ashift, aun, acall1, abuiltin, alenOf, aresults, aresult, packed, List.nil_append, List.append_nil, List.map_cons, List.map_nil, List.getElem?_toArray, List.getElem?_cons_zero, List.getElem?_cons_succ, Option.bind_some, Option.map_some, Option.map_none, Nat.reduceEqDiff, Nat.reduceLT, Int.reduceLT, Int.reduceLE, Int.reduceGT, Int.reduceGE,  Nat.reduceAdd, Nat.reduceSub, ↓reduceIte, reduceCtorEq, Bool.false_eq_true, Bool.true_eq_false, Bool.not_true, Bool.not_false, true_and, and_true, false_and, and_false, not_true_eq_false, not_false_eq_true, forall_const, false_implies, true_implies, implies_true, decide_true, decide_false, or_self, false_or, or_false, true_or, or_true, hl, e0, e1, Try.underlying9, a20, c1, hc1, hc2, hc3', hc4, hc5, hc6', bs, bi, bj, neq4, eql4, q0]
end Go.Proofs.YtikkpmmhejjpaaaM
