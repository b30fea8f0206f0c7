/- The first field of a number, by the machine: the program's search. -/
import Derived.Test.YtikkpmmhejjpaaaD17
set_option linter.unusedSimpArgs false
set_option linter.unusedVariables false
namespace Go.Proofs.YtikkpmmhejjpaaaM
open Go Go.RowKit
variable {Γ : Hooks} {D : Drawn}

theorem zero47 : zeroOf Try.prog 47 = some (.agg [.int .i64 0, .str []]) := by kernel_rfl

/-- A field that has been put into a variable of its own. -/
def put47 (h : AH) (x : Int × List UInt8) : AH := (h.push (.cells [.int .i64 0, .str []] true 0 (some (47, true)))).set h.n (.cells (ec x) true 0 (some (47, true)))

theorem put47_get (h : AH) (x : Int × List UInt8) : (put47 h x).get h.n = some (.cells (ec x) true 0 (some (47, true))) := AH.get_set_same (AH.get_push_new _ _)
theorem put47_old {h : AH} {x : Int × List UInt8} {k : Nat} {o : AO} (hk : h.get k = some o) : (put47 h x).get k = some o := by
  have := AH.get_lt hk
  unfold put47
  rw [AH.get_set_ne (by omega), AH.get_push_ne (by omega)]
  exact hk
theorem store47 (h : AH) (x : Int × List UInt8) : astore Try.prog 47 (.ptr h.n 0) (.agg (ec x)) (h.push (.cells [.int .i64 0, .str []] true 0 (some (47, true)))) = some (put47 h x) := by
  have e2 : szOf Try.prog 47 = some 2 := by kernel_rfl
  simp [astore, AH.get_push_new, e2, AV.cells, ec, AV.one, splice, put47]
theorem RS.keep {e : TypeId} {sz : Nat} {u : AV} {h h' : AH} {xs : List (List AV)} (hu : RS e sz u h xs) (hf : ∀ k o, h.get k = some o → h'.get k = some o) : RS e sz u h' xs := by
  rcases hu with hh | ⟨id, hb, hv, hg⟩
  · exact .inl hh
  · exact .inr ⟨id, hb, hv, hf _ _ hg⟩

set_option maxRecDepth 100000 in
set_option maxHeartbeats 2000000 in
theorem Find_run (h24 : Γ 24 = none) (n : Nat) {h : AH} {u : AV} {xs : List (Int × List UInt8)} (hu : RS 47 2 u h (xs.map ec)) (hx : xs.length < 1000000) (hn : xs.length + 10 ≤ n) (id : Int) :
    AR (acall Try.prog Γ D (n + 1) 24 [u, .int .i64 id] h) fun r h' => r = .tup [.str (fd xs id).1, .bool (fd xs id).2] ∧ h.n ≤ h'.n ∧ ∀ k o, h.get k = some o → h'.get k = some o := by
  refine AR_call h24 Try.func24 rfl _ _ fun env hl he => ?_
  have e0 := he 0; have e1 := he 1
  simp only [List.getD_cons_zero, List.getD_cons_succ] at e0 e1
  simp only [Try.f24] at hl ⊢
  simp only [List.length_cons, List.length_nil, Nat.reduceAdd, Nat.reduceSub] at hl
  have l1 := lenR rt35 hu
  rw [List.length_map] at l1
  simp only [↓KP_nil, ↓KP_seq, ↓KP_seqE, ↓KP_seqR, ↓KP_block, ↓KP_blockE, ↓KP_blockR, ↓AW_skip, ↓AW_region, ↓AW_drawn, ↓AW_seq, ↓AW_cond, ↓AW_block, ↓AW_exit, ↓AW_scope, ↓AW_label, ↓AW_ret, ↓AW_loop, ↓AE_nil, ↓AE_step, ↓AE_guard, ↓KA_some, ↓KA_none, ↓CondK_true, ↓CondK_false, ↓GuardK_some, ↓GuardW_yes, ↓GuardW_tf, ↓GuardW_ft, ↓GuardW_undef, ↓dstAt_zero, ↓dstAt_succ, ↓AR_some, ↓AR_none, ↓AVK_some, ↓AVM_some, ↓AHK_some, CondK_true, CondK_false, GuardW_yes, GuardW_tf, GuardW_ft, GuardW_undef, Qfun_normal, Qfun_ret, Qloop_normal, Qloop_exit, Qloop_ret, AR_some, AR_none, AR_map, AR_mapH, AR_ite, AVK_some, AVK_none, AVK_map, AVK_ite, AVM_some, AVM_none, AHK_some, AHK_none, AHK_ite, aop, gs, List.length_set, evalOp, ofValue, ofCell, isConst, abin, aint, astrop, ashift, aun, acall1, abuiltin, aresults, aresult, packed, List.nil_append, List.append_nil, List.map_cons, List.map_nil, List.getElem?_toArray, List.getElem?_cons_zero, List.getElem?_cons_succ, Option.bind_some, Option.map_some, Option.map_none, Nat.reduceEqDiff, Nat.reduceLT, Int.reduceLT, Int.reduceLE, Int.reduceGT, Int.reduceGE,  Nat.reduceAdd, Nat.reduceSub, ↓reduceIte, reduceCtorEq, Bool.false_eq_true, Bool.true_eq_false, Bool.not_true, Bool.not_false, true_and, and_true, false_and, and_false, not_true_eq_false, not_false_eq_true, forall_const, false_implies, true_implies, implies_true, decide_true, decide_false, or_self, false_or, or_false, true_or, or_true, hl, e0, e1, l1]
  generalize hR : fd xs id = R
  refine AW_loopI (fun k env h1 => (h.n ≤ h1.n ∧ ∀ k o, h.get k = some o → h1.get k = some o) ∧ env.length = 21 ∧ env.getD 8 .undef = u ∧ env.getD 1 .undef = .int .i64 id ∧ env.getD 9 .undef = .int .i64 xs.length ∧ ∃ i : Nat, k + i = xs.length ∧ env.getD 10 .undef = .int .i64 i ∧ fd (xs.drop i) id = R) ?_ xs.length _ _ ?_ (by omega)
  · rintro k env1 h1 ⟨⟨hn1, hfr⟩, hl, e8, e1, e9, i, hi, e10, hfd⟩
    have hu1 := hu.keep hfr
    by_cases hlt : (i : Int) < xs.length
    · obtain ⟨x, hxi⟩ : ∃ x, xs[i]? = some x := ⟨_, List.getElem?_eq_getElem (by omega)⟩
      have hdr : xs.drop i = x :: xs.drop (i + 1) := by
        rw [List.drop_eq_getElem_cons (by omega)]
        congr 1
        rw [List.getElem?_eq_getElem (by omega)] at hxi
        exact Option.some.inj hxi
      obtain ⟨p, i1, o1⟩ := elemR rt35 hu1 (ec_len xs) (i := i) (c := ec x) (by rw [List.getElem?_map, hxi]; rfl)
      rw [hdr, fd] at hfd
      have wi : IntKind.i64.wrap ((i : Int) + 1) = ((i + 1 : Nat) : Int) := by rw [wrap_i64 (by omega) (by omega)]; omega
      have z := zero47
      have zc : (AV.agg [.int .i64 0, .str []]).cells = some [.int .i64 0, .str []] := rfl
      have an : ∀ cs, anew 47 cs h1 = (.ptr h1.n 0, h1.push (.cells cs true 0 (some (47, true)))) := fun _ => rfl
      have st := store47 h1 x
      have f0 : afieldAddr Try.prog 47 (.ptr h1.n 0) 0 = some (.ptr h1.n 0) := by kernel_rfl
      have f1 : afieldAddr Try.prog 47 (.ptr h1.n 0) 1 = some (.ptr h1.n 1) := by kernel_rfl
      have g3 : isAg Try.prog 3 = some false := by kernel_rfl
      have g9 : isAg Try.prog 9 = some false := by kernel_rfl
      have ld0 : aload Try.prog 3 (.ptr h1.n 0) (put47 h1 x) = some (.int .i64 x.1) := by simp [aload, put47_get, apart, g3, ec]
      have ld1 : aload Try.prog 9 (.ptr h1.n 1) (put47 h1 x) = some (.str x.2) := by simp [aload, put47_get, apart, g9, ec]
      have hn2 : h.n ≤ (put47 h1 x).n := by unfold put47; rw [AH.set_n, AH.push_n]; omega
      by_cases hid : x.1 = id
      · have b1 : (x.1 == id) = true := by simp [hid]
        rw [if_pos hid] at hfd
        simp only [↓KP_nil, ↓KP_seq, ↓KP_seqE, ↓KP_seqR, ↓KP_block, ↓KP_blockE, ↓KP_blockR, ↓AW_skip, ↓AW_region, ↓AW_drawn, ↓AW_seq, ↓AW_cond, ↓AW_block, ↓AW_exit, ↓AW_scope, ↓AW_label, ↓AW_ret, ↓AW_loop, ↓AE_nil, ↓AE_step, ↓AE_guard, ↓KA_some, ↓KA_none, ↓CondK_true, ↓CondK_false, ↓GuardK_some, ↓GuardW_yes, ↓GuardW_tf, ↓GuardW_ft, ↓GuardW_undef, ↓dstAt_zero, ↓dstAt_succ, ↓AR_some, ↓AR_none, ↓AVK_some, ↓AVM_some, ↓AHK_some, CondK_true, CondK_false, GuardW_yes, GuardW_tf, GuardW_ft, GuardW_undef, Qfun_normal, Qfun_ret, Qloop_normal, Qloop_exit, Qloop_ret, AR_some, AR_none, AR_map, AR_mapH, AR_ite, AVK_some, AVK_none, AVK_map, AVK_ite, AVM_some, AVM_none, AHK_some, AHK_none, AHK_ite, aop, gs, List.length_set, evalOp, ofValue, ofCell, isConst, abin, aint, astrop, ashift, aun, acall1, abuiltin, aresults, aresult, packed, List.nil_append, List.append_nil, List.map_cons, List.map_nil, List.getElem?_toArray, List.getElem?_cons_zero, List.getElem?_cons_succ, Option.bind_some, Option.map_some, Option.map_none, Nat.reduceEqDiff, Nat.reduceLT, Int.reduceLT, Int.reduceLE, Int.reduceGT, Int.reduceGE,  Nat.reduceAdd, Nat.reduceSub, ↓reduceIte, reduceCtorEq, Bool.false_eq_true, Bool.true_eq_false, Bool.not_true, Bool.not_false, true_and, and_true, false_and, and_false, not_true_eq_false, not_false_eq_true, forall_const, false_implies, true_implies, implies_true, decide_true, decide_false, or_self, false_or, or_false, true_or, or_true, hl, e8, e1, e9, e10, hlt, i1, o1, z, zc, an, st, f0, ld0, b1, f1, ld1, ← hfd]
        exact ⟨hn2, fun k o hk => put47_old (hfr k o hk)⟩
      · have b1 : (x.1 == id) = false := by simp [hid]
        rw [if_neg hid] at hfd
        simp only [↓KP_nil, ↓KP_seq, ↓KP_seqE, ↓KP_seqR, ↓KP_block, ↓KP_blockE, ↓KP_blockR, ↓AW_skip, ↓AW_region, ↓AW_drawn, ↓AW_seq, ↓AW_cond, ↓AW_block, ↓AW_exit, ↓AW_scope, ↓AW_label, ↓AW_ret, ↓AW_loop, ↓AE_nil, ↓AE_step, ↓AE_guard, ↓KA_some, ↓KA_none, ↓CondK_true, ↓CondK_false, ↓GuardK_some, ↓GuardW_yes, ↓GuardW_tf, ↓GuardW_ft, ↓GuardW_undef, ↓dstAt_zero, ↓dstAt_succ, ↓AR_some, ↓AR_none, ↓AVK_some, ↓AVM_some, ↓AHK_some, CondK_true, CondK_false, GuardW_yes, GuardW_tf, GuardW_ft, GuardW_undef, Qfun_normal, Qfun_ret, Qloop_normal, Qloop_exit, Qloop_ret, AR_some, AR_none, AR_map, AR_mapH, AR_ite, AVK_some, AVK_none, AVK_map, AVK_ite, AVM_some, AVM_none, AHK_some, AHK_none, AHK_ite, aop, gs, List.length_set, evalOp, ofValue, ofCell, isConst, abin, aint, astrop, ashift, aun, acall1, abuiltin, aresults, aresult, packed, List.nil_append, List.append_nil, List.map_cons, List.map_nil, List.getElem?_toArray, List.getElem?_cons_zero, List.getElem?_cons_succ, Option.bind_some, Option.map_some, Option.map_none, Nat.reduceEqDiff, Nat.reduceLT, Int.reduceLT, Int.reduceLE, Int.reduceGT, Int.reduceGE,  Nat.reduceAdd, Nat.reduceSub, ↓reduceIte, reduceCtorEq, Bool.false_eq_true, Bool.true_eq_false, Bool.not_true, Bool.not_false, true_and, and_true, false_and, and_false, not_true_eq_false, not_false_eq_true, forall_const, false_implies, true_implies, implies_true, decide_true, decide_false, or_self, false_or, or_false, true_or, or_true, hl, e8, e1, e9, e10, hlt, i1, o1, z, zc, an, st, f0, ld0, b1, wi]
        exact ⟨k - 1, by omega, ⟨hn2, fun k o hk => put47_old (hfr k o hk)⟩, i + 1, by omega, rfl, hfd⟩
    · rw [List.drop_of_length_le (by omega), fd] at hfd
      simp only [↓KP_nil, ↓KP_seq, ↓KP_seqE, ↓KP_seqR, ↓KP_block, ↓KP_blockE, ↓KP_blockR, ↓AW_skip, ↓AW_region, ↓AW_drawn, ↓AW_seq, ↓AW_cond, ↓AW_block, ↓AW_exit, ↓AW_scope, ↓AW_label, ↓AW_ret, ↓AW_loop, ↓AE_nil, ↓AE_step, ↓AE_guard, ↓KA_some, ↓KA_none, ↓CondK_true, ↓CondK_false, ↓GuardK_some, ↓GuardW_yes, ↓GuardW_tf, ↓GuardW_ft, ↓GuardW_undef, ↓dstAt_zero, ↓dstAt_succ, ↓AR_some, ↓AR_none, ↓AVK_some, ↓AVM_some, ↓AHK_some, CondK_true, CondK_false, GuardW_yes, GuardW_tf, GuardW_ft, GuardW_undef, Qfun_normal, Qfun_ret, Qloop_normal, Qloop_exit, Qloop_ret, AR_some, AR_none, AR_map, AR_mapH, AR_ite, AVK_some, AVK_none, AVK_map, AVK_ite, AVM_some, AVM_none, AHK_some, AHK_none, AHK_ite, aop, gs, List.length_set, evalOp, ofValue, ofCell, isConst, abin, aint, astrop, ashift, aun, acall1, abuiltin, aresults, aresult, packed, List.nil_append, List.append_nil, List.map_cons, List.map_nil, List.getElem?_toArray, List.getElem?_cons_zero, List.getElem?_cons_succ, Option.bind_some, Option.map_some, Option.map_none, Nat.reduceEqDiff, Nat.reduceLT, Int.reduceLT, Int.reduceLE, Int.reduceGT, Int.reduceGE,  Nat.reduceAdd, Nat.reduceSub, ↓reduceIte, reduceCtorEq, Bool.false_eq_true, Bool.true_eq_false, Bool.not_true, Bool.not_false, true_and, and_true, false_and, and_false, not_true_eq_false, not_false_eq_true, forall_const, false_implies, true_implies, implies_true, decide_true, decide_false, or_self, false_or, or_false, true_or, or_true, hl, e8, e1, e9, e10, hlt, ← hfd]
      exact ⟨hn1, hfr⟩
  · simp only [↓KP_nil, ↓KP_seq, ↓KP_seqE, ↓KP_seqR, ↓KP_block, ↓KP_blockE, ↓KP_blockR, ↓AW_skip, ↓AW_region, ↓AW_drawn, ↓AW_seq, ↓AW_cond, ↓AW_block, ↓AW_exit, ↓AW_scope, ↓AW_label, ↓AW_ret, ↓AW_loop, ↓AE_nil, ↓AE_step, ↓AE_guard, ↓KA_some, ↓KA_none, ↓CondK_true, ↓CondK_false, ↓GuardK_some, ↓GuardW_yes, ↓GuardW_tf, ↓GuardW_ft, ↓GuardW_undef, ↓dstAt_zero, ↓dstAt_succ, ↓AR_some, ↓AR_none, ↓AVK_some, ↓AVM_some, ↓AHK_some, CondK_true, CondK_false, GuardW_yes, GuardW_tf, GuardW_ft, GuardW_undef, Qfun_normal, Qfun_ret, Qloop_normal, Qloop_exit, Qloop_ret, AR_some, AR_none, AR_map, AR_mapH, AR_ite, AVK_some, AVK_none, AVK_map, AVK_ite, AVM_some, AVM_none, AHK_some, AHK_none, AHK_ite, aop, gs, List.length_set, evalOp, ofValue, ofCell, isConst, abin, aint, astrop, ashift, aun, acall1, abuiltin, aresults, aresult, packed, List.nil_append, List.append_nil, List.map_cons, List.map_nil, List.getElem?_toArray, List.getElem?_cons_zero, List.getElem?_cons_succ, Option.bind_some, Option.map_some, Option.map_none, Nat.reduceEqDiff, Nat.reduceLT, Int.reduceLT, Int.reduceLE, Int.reduceGT, Int.reduceGE,  Nat.reduceAdd, Nat.reduceSub, ↓reduceIte, reduceCtorEq, Bool.false_eq_true, Bool.true_eq_false, Bool.not_true, Bool.not_false, true_and, and_true, false_and, and_false, not_true_eq_false, not_false_eq_true, forall_const, false_implies, true_implies, implies_true, decide_true, decide_false, or_self, false_or, or_false, true_or, or_true, hl, e0, e1]
    exact ⟨⟨Nat.le_refl _, fun k o hk => hk⟩, 0, by omega, rfl, by simpa using hR⟩
end Go.Proofs.YtikkpmmhejjpaaaM
