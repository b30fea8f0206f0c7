/- The bytes of fields, by the machine: what the program puts. -/
import Derived.Test.YtikkpmmhejjpaaaF17
set_option linter.unusedSimpArgs false
set_option linter.unusedVariables false
namespace Go.Proofs.YtikkpmmhejjpaaaM
open Go Go.RowKit
variable {Γ : Hooks}

noncomputable def T17 : PTab := fun f => if f = 13 then some (.pure k13) else if f = 14 then some (.pure k14) else if f = 15 then some (.pure k15) else if f = 19 then some (.pure k19) else none

def two (n : Int) : List UInt8 := [pb (IntKind.u64.wrap n) 0, pb (IntKind.u64.wrap n) 1]
def enc (x : Int × List UInt8) : List UInt8 := two x.1 ++ two x.2.length ++ x.2

/-- The bytes of fields, behind others. -/
def pt : List (Int × List UInt8) → List UInt8 → List UInt8 × Int
  | [], acc => if (acc.length : Int) > 65535 then ([], 7) else (acc, 0)
  | x :: l, acc => if x.1 < 0 ∨ x.1 > 65535 ∨ (x.2.length : Int) > 65535 then ([], 1) else pt l (acc ++ enc x)

theorem bld0 (h : AH) : zeroOf Try.prog 88 = some (.agg [.val (.pointer none), .val (.slice none 0 0)]) := by kernel_rfl

theorem Bld.keep {h h' : AH} {id : Nat} {bs : List UInt8} (hb : Bld h id bs) (hf : ∀ k o, h.get k = some o → h'.get k = some o) : Bld h' id bs ∧ ∀ k, bufOf h' id k → bufOf h id k := by
  obtain ⟨p, v, hg, hp, hbs⟩ := hb
  refine ⟨⟨p, v, hf _ _ hg, hp, ?_⟩, fun k ⟨q, m, hk⟩ => ?_⟩
  · rcases hbs with hh | ⟨k, a, b, hk⟩
    · exact .inl hh
    · exact .inr ⟨k, a, b, hf _ _ hk⟩
  · rw [hf _ _ hg] at hk
    exact ⟨q, m, by rw [hg, hk]⟩

set_option maxRecDepth 100000 in
set_option maxHeartbeats 4000000 in
theorem Put_run (h69 : Γ 69 = none) (h77 : Γ 77 = some handsBack) (h50 : Γ 50 = none) (h51 : Γ 51 = none) (h52 : Γ 52 = none) (h26 : Γ 26 = none) (n : Nat) {h : AH} {u : AV} {xs : List (Int × List UInt8)} (hu : RS 47 2 u h (xs.map ec)) (hx : xs.length < 100000) (hn : xs.length + 10 ≤ n) :
    AR (acall Try.prog Γ (drawnOf Try.prog T17) (n + 1) 26 [u] h) fun r h' => r = .tup [.str (pt xs []).1, .int .i64 (pt xs []).2] ∧ h.n ≤ h'.n ∧ ∀ k o, h.get k = some o → h'.get k = some o := by
  refine AR_call h26 Try.func26 rfl _ _ fun env hl he => ?_
  have e0 := he 0
  simp only [List.getD_cons_zero, List.getD_cons_succ] at e0
  simp only [Try.f26] at hl ⊢
  simp only [List.length_cons, List.length_nil, Nat.reduceAdd, Nat.reduceSub] at hl
  have z8 := bld0 h
  have zc8 : (AV.agg [.val (.pointer none), .val (.slice none 0 0)]).cells = some [.val (.pointer none), .val (.slice none 0 0)] := rfl
  have an8 : ∀ cs, anew 88 cs h = (.ptr h.n 0, h.push (.cells cs true 0 (some (88, true)))) := fun _ => rfl
  have hg0 := AH.get_push_new h (bobj (.val (.pointer none)) (.val (.slice none 0 0)))
  have old0 : ∀ k o, h.get k = some o → (h.push (bobj (.val (.pointer none)) (.val (.slice none 0 0)))).get k = some o := fun k o hk => by rw [AH.get_push_ne (by have := AH.get_lt hk; omega)]; exact hk
  have l1 := lenR rt35 (hu.keep old0)
  rw [List.length_map] at l1
  simp only [bobj] at hg0 old0 l1
  simp only [↓KP_nil, ↓KP_seq, ↓KP_seqE, ↓KP_seqR, ↓KP_block, ↓KP_blockE, ↓KP_blockR, ↓AW_skip, ↓AW_region, ↓AW_drawn, ↓AW_seq, ↓AW_cond, ↓AW_block, ↓AW_exit, ↓AW_scope, ↓AW_label, ↓AW_ret, ↓AW_loop, ↓AE_nil, ↓AE_step, ↓AE_guard, ↓KA_some, ↓KA_none, ↓CondK_true, ↓CondK_false, ↓GuardK_some, ↓GuardW_yes, ↓GuardW_tf, ↓GuardW_ft, ↓GuardW_undef, ↓dstAt_zero, ↓dstAt_succ, ↓AR_some, ↓AR_none, ↓AVK_some, ↓AVM_some, ↓AHK_some, CondK_true, CondK_false, GuardW_yes, GuardW_tf, GuardW_ft, GuardW_undef, Qfun_normal, Qfun_ret, Qloop_normal, Qloop_exit, Qloop_ret, AR_some, AR_none, AR_map, AR_mapH, AR_ite, AVK_some, AVK_none, AVK_map, AVK_ite, AVM_some, AVM_none, AHK_some, AHK_none, AHK_ite, aop, gs, List.length_set, evalOp, ofValue, ofCell, isConst, abin, aint, astrop, ashift, aun, acall1, abuiltin, aresults, aresult, packed, List.nil_append, List.append_nil, List.map_cons, List.map_nil, List.getElem?_toArray, List.getElem?_cons_zero, List.getElem?_cons_succ, Option.bind_some, Option.map_some, Option.map_none, Nat.reduceEqDiff, Nat.reduceLT, Int.reduceLT, Int.reduceLE, Int.reduceGT, Int.reduceGE,  Nat.reduceAdd, Nat.reduceSub, ↓reduceIte, reduceCtorEq, Bool.false_eq_true, Bool.true_eq_false, Bool.not_true, Bool.not_false, true_and, and_true, false_and, and_false, not_true_eq_false, not_false_eq_true, forall_const, false_implies, true_implies, implies_true, decide_true, decide_false, or_self, false_or, or_false, true_or, or_true, hl, e0, z8, zc8, an8, l1]
  generalize hR : pt xs [] = R
  refine AW_loopI (fun k env h1 => (h.n ≤ h1.n ∧ ∀ k o, h.get k = some o → h1.get k = some o) ∧ env.length = 43 ∧ env.getD 7 .undef = u ∧ env.getD 4 .undef = .ptr h.n 0 ∧ env.getD 8 .undef = .int .i64 xs.length ∧
    ∃ (i : Nat) (acc : List UInt8), k + i = xs.length ∧ env.getD 9 .undef = .int .i64 i ∧ Bld h1 h.n acc ∧ (∀ k, bufOf h1 h.n k → h.n ≤ k) ∧ acc.length ≤ i * 200000 ∧ pt (xs.drop i) acc = R) ?_ xs.length _ _ ?_ (by omega)
  · rintro k env1 h1 ⟨⟨hn1, hfr⟩, hl, e7, e4, e8, i, acc, hi, e9, hb, hbuf, hacc, hpt⟩
    have hu1 := hu.keep hfr
    by_cases hlt : (i : Int) < xs.length
    · obtain ⟨x, hxi⟩ : ∃ x, xs[i]? = some x := ⟨_, List.getElem?_eq_getElem (by omega)⟩
      have hdr : xs.drop i = x :: xs.drop (i + 1) := by
        rw [List.drop_eq_getElem_cons (by omega)]
        congr 1
        rw [List.getElem?_eq_getElem (by omega)] at hxi
        exact Option.some.inj hxi
      rw [hdr, pt] at hpt
      obtain ⟨p, i1, o1⟩ := elemR rt35 hu1 (ec_len xs) (i := i) (c := ec x) (by rw [List.getElem?_map, hxi]; rfl)
      have wi : IntKind.i64.wrap ((i : Int) + 1) = ((i + 1 : Nat) : Int) := by rw [wrap_i64 (by omega) (by omega)]; omega
      have z := zero47
      have zc : (AV.agg [.int .i64 0, .str []]).cells = some [.int .i64 0, .str []] := rfl
      have an : ∀ cs, anew 47 cs h1 = (.ptr h1.n 0, h1.push (.cells cs true 0 (some (47, true)))) := fun _ => rfl
      have st := store47 h1 x
      have f0 : afieldAddr Try.prog 47 (.ptr h1.n 0) 0 = some (.ptr h1.n 0) := by kernel_rfl
      have f1 : afieldAddr Try.prog 47 (.ptr h1.n 0) 1 = some (.ptr h1.n 1) := by kernel_rfl
      have g3 : isAg Try.prog 3 = some false := by kernel_rfl
      have g9 : isAg Try.prog 9 = some false := by kernel_rfl
      have ld0 : aload Try.prog 3 (.ptr h1.n 0) (put47 h1 x) = some (.int .i64 x.1) := by simp [aload, put47_get, apart, g3, ec]
      have ld1 : aload Try.prog 9 (.ptr h1.n 1) (put47 h1 x) = some (.str x.2) := by simp [aload, put47_get, apart, g9, ec]
      have lx : alenOf Try.prog 9 (.str x.2) (put47 h1 x) = some (.int .i64 x.2.length) := by simp [alenOf, Try.underlying9]
      have hn2 : h.n ≤ (put47 h1 x).n := by unfold put47; rw [AH.set_n, AH.push_n]; omega
      have hfr2 : ∀ k o, h.get k = some o → (put47 h1 x).get k = some o := fun k o hk => put47_old (hfr k o hk)
      have hnil : ∀ v : AV, (v = v) = True := fun _ => by simp
      by_cases c1 : x.1 < 0
      · rw [if_pos (.inl c1)] at hpt
        simp only [↓KP_nil, ↓KP_seq, ↓KP_seqE, ↓KP_seqR, ↓KP_block, ↓KP_blockE, ↓KP_blockR, ↓AW_skip, ↓AW_region, ↓AW_drawn, ↓AW_seq, ↓AW_cond, ↓AW_block, ↓AW_exit, ↓AW_scope, ↓AW_label, ↓AW_ret, ↓AW_loop, ↓AE_nil, ↓AE_step, ↓AE_guard, ↓KA_some, ↓KA_none, ↓CondK_true, ↓CondK_false, ↓GuardK_some, ↓GuardW_yes, ↓GuardW_tf, ↓GuardW_ft, ↓GuardW_undef, ↓dstAt_zero, ↓dstAt_succ, ↓AR_some, ↓AR_none, ↓AVK_some, ↓AVM_some, ↓AHK_some, CondK_true, CondK_false, GuardW_yes, GuardW_tf, GuardW_ft, GuardW_undef, Qfun_normal, Qfun_ret, Qloop_normal, Qloop_exit, Qloop_ret, AR_some, AR_none, AR_map, AR_mapH, AR_ite, AVK_some, AVK_none, AVK_map, AVK_ite, AVM_some, AVM_none, AHK_some, AHK_none, AHK_ite, aop, gs, List.length_set, evalOp, ofValue, ofCell, isConst, abin, aint, astrop, ashift, aun, acall1, abuiltin, aresults, aresult, packed, List.nil_append, List.append_nil, List.map_cons, List.map_nil, List.getElem?_toArray, List.getElem?_cons_zero, List.getElem?_cons_succ, Option.bind_some, Option.map_some, Option.map_none, Nat.reduceEqDiff, Nat.reduceLT, Int.reduceLT, Int.reduceLE, Int.reduceGT, Int.reduceGE,  Nat.reduceAdd, Nat.reduceSub, ↓reduceIte, reduceCtorEq, Bool.false_eq_true, Bool.true_eq_false, Bool.not_true, Bool.not_false, true_and, and_true, false_and, and_false, not_true_eq_false, not_false_eq_true, forall_const, false_implies, true_implies, implies_true, decide_true, decide_false, or_self, false_or, or_false, true_or, or_true, hl, e7, e4, e8, e9, hlt, i1, o1, z, zc, an, st, f0, ld0, f1, ld1, lx, c1, ← hpt]
        exact ⟨hn2, hfr2⟩
      by_cases c2 : x.1 > 65535
      · rw [if_pos (.inr (.inl c2))] at hpt
        simp only [↓KP_nil, ↓KP_seq, ↓KP_seqE, ↓KP_seqR, ↓KP_block, ↓KP_blockE, ↓KP_blockR, ↓AW_skip, ↓AW_region, ↓AW_drawn, ↓AW_seq, ↓AW_cond, ↓AW_block, ↓AW_exit, ↓AW_scope, ↓AW_label, ↓AW_ret, ↓AW_loop, ↓AE_nil, ↓AE_step, ↓AE_guard, ↓KA_some, ↓KA_none, ↓CondK_true, ↓CondK_false, ↓GuardK_some, ↓GuardW_yes, ↓GuardW_tf, ↓GuardW_ft, ↓GuardW_undef, ↓dstAt_zero, ↓dstAt_succ, ↓AR_some, ↓AR_none, ↓AVK_some, ↓AVM_some, ↓AHK_some, CondK_true, CondK_false, GuardW_yes, GuardW_tf, GuardW_ft, GuardW_undef, Qfun_normal, Qfun_ret, Qloop_normal, Qloop_exit, Qloop_ret, AR_some, AR_none, AR_map, AR_mapH, AR_ite, AVK_some, AVK_none, AVK_map, AVK_ite, AVM_some, AVM_none, AHK_some, AHK_none, AHK_ite, aop, gs, List.length_set, evalOp, ofValue, ofCell, isConst, abin, aint, astrop, ashift, aun, acall1, abuiltin, aresults, aresult, packed, List.nil_append, List.append_nil, List.map_cons, List.map_nil, List.getElem?_toArray, List.getElem?_cons_zero, List.getElem?_cons_succ, Option.bind_some, Option.map_some, Option.map_none, Nat.reduceEqDiff, Nat.reduceLT, Int.reduceLT, Int.reduceLE, Int.reduceGT, Int.reduceGE,  Nat.reduceAdd, Nat.reduceSub, ↓reduceIte, reduceCtorEq, Bool.false_eq_true, Bool.true_eq_false, Bool.not_true, Bool.not_false, true_and, and_true, false_and, and_false, not_true_eq_false, not_false_eq_true, forall_const, false_implies, true_implies, implies_true, decide_true, decide_false, or_self, false_or, or_false, true_or, or_true, hl, e7, e4, e8, e9, hlt, i1, o1, z, zc, an, st, f0, ld0, f1, ld1, lx, c1, c2, ← hpt]
        exact ⟨hn2, hfr2⟩
      by_cases c3 : (x.2.length : Int) > 65535
      · rw [if_pos (.inr (.inr c3))] at hpt
        simp only [↓KP_nil, ↓KP_seq, ↓KP_seqE, ↓KP_seqR, ↓KP_block, ↓KP_blockE, ↓KP_blockR, ↓AW_skip, ↓AW_region, ↓AW_drawn, ↓AW_seq, ↓AW_cond, ↓AW_block, ↓AW_exit, ↓AW_scope, ↓AW_label, ↓AW_ret, ↓AW_loop, ↓AE_nil, ↓AE_step, ↓AE_guard, ↓KA_some, ↓KA_none, ↓CondK_true, ↓CondK_false, ↓GuardK_some, ↓GuardW_yes, ↓GuardW_tf, ↓GuardW_ft, ↓GuardW_undef, ↓dstAt_zero, ↓dstAt_succ, ↓AR_some, ↓AR_none, ↓AVK_some, ↓AVM_some, ↓AHK_some, CondK_true, CondK_false, GuardW_yes, GuardW_tf, GuardW_ft, GuardW_undef, Qfun_normal, Qfun_ret, Qloop_normal, Qloop_exit, Qloop_ret, AR_some, AR_none, AR_map, AR_mapH, AR_ite, AVK_some, AVK_none, AVK_map, AVK_ite, AVM_some, AVM_none, AHK_some, AHK_none, AHK_ite, aop, gs, List.length_set, evalOp, ofValue, ofCell, isConst, abin, aint, astrop, ashift, aun, acall1, abuiltin, aresults, aresult, packed, List.nil_append, List.append_nil, List.map_cons, List.map_nil, List.getElem?_toArray, List.getElem?_cons_zero, List.getElem?_cons_succ, Option.bind_some, Option.map_some, Option.map_none, Nat.reduceEqDiff, Nat.reduceLT, Int.reduceLT, Int.reduceLE, Int.reduceGT, Int.reduceGE,  Nat.reduceAdd, Nat.reduceSub, ↓reduceIte, reduceCtorEq, Bool.false_eq_true, Bool.true_eq_false, Bool.not_true, Bool.not_false, true_and, and_true, false_and, and_false, not_true_eq_false, not_false_eq_true, forall_const, false_implies, true_implies, implies_true, decide_true, decide_false, or_self, false_or, or_false, true_or, or_true, hl, e7, e4, e8, e9, hlt, i1, o1, z, zc, an, st, f0, ld0, f1, ld1, lx, c1, c2, c3, ← hpt]
        exact ⟨hn2, hfr2⟩
      rw [if_neg (by omega)] at hpt
      obtain ⟨hb2, hbuf2⟩ := hb.keep (h' := put47 h1 x) fun k o hk => put47_old hk
      have le : (two x.1 ++ two x.2.length ++ x.2).length ≤ 70000 := by simp [two]; omega
      obtain ⟨r3, h3, hw, rfl, hb3, hbuf3, hn3, hfr3⟩ := (WriteString_run (D := drawnOf Try.prog T17) h69 h77 h50 (n - 1) (by omega) hb2 (two x.1 ++ two x.2.length ++ x.2) (by omega)).out
      rw [show n - 1 + 1 = n by omega] at hw
      have hw' : withTab T17 (acall Try.prog Γ (drawnOf Try.prog T17) n) 50 [.ptr h.n 0, .str (two x.1 ++ two x.2.length ++ x.2)] (put47 h1 x) = _ := hw
      have t13 : ∀ m g, withTab T17 (acall Try.prog Γ (drawnOf Try.prog T17) n) 13 [.int .i64 m] g = some (.str (two m), g) := fun _ _ => rfl
      have k1 : (two x.1).length + (two x.2.length).length ≤ sizeCap := by simp [two, sizeCap]
      have k2 : (two x.1 ++ two x.2.length).length + x.2.length ≤ sizeCap := by simp [two, sizeCap]; omega
      simp only [↓KP_nil, ↓KP_seq, ↓KP_seqE, ↓KP_seqR, ↓KP_block, ↓KP_blockE, ↓KP_blockR, ↓AW_skip, ↓AW_region, ↓AW_drawn, ↓AW_seq, ↓AW_cond, ↓AW_block, ↓AW_exit, ↓AW_scope, ↓AW_label, ↓AW_ret, ↓AW_loop, ↓AE_nil, ↓AE_step, ↓AE_guard, ↓KA_some, ↓KA_none, ↓CondK_true, ↓CondK_false, ↓GuardK_some, ↓GuardW_yes, ↓GuardW_tf, ↓GuardW_ft, ↓GuardW_undef, ↓dstAt_zero, ↓dstAt_succ, ↓AR_some, ↓AR_none, ↓AVK_some, ↓AVM_some, ↓AHK_some, CondK_true, CondK_false, GuardW_yes, GuardW_tf, GuardW_ft, GuardW_undef, Qfun_normal, Qfun_ret, Qloop_normal, Qloop_exit, Qloop_ret, AR_some, AR_none, AR_map, AR_mapH, AR_ite, AVK_some, AVK_none, AVK_map, AVK_ite, AVM_some, AVM_none, AHK_some, AHK_none, AHK_ite, aop, gs, List.length_set, evalOp, ofValue, ofCell, isConst, abin, aint, astrop, ashift, aun, acall1, abuiltin, aresults, aresult, packed, List.nil_append, List.append_nil, List.map_cons, List.map_nil, List.getElem?_toArray, List.getElem?_cons_zero, List.getElem?_cons_succ, Option.bind_some, Option.map_some, Option.map_none, Nat.reduceEqDiff, Nat.reduceLT, Int.reduceLT, Int.reduceLE, Int.reduceGT, Int.reduceGE,  Nat.reduceAdd, Nat.reduceSub, ↓reduceIte, reduceCtorEq, Bool.false_eq_true, Bool.true_eq_false, Bool.not_true, Bool.not_false, true_and, and_true, false_and, and_false, not_true_eq_false, not_false_eq_true, forall_const, false_implies, true_implies, implies_true, decide_true, decide_false, or_self, false_or, or_false, true_or, or_true, hl, e7, e4, e8, e9, hlt, i1, o1, z, zc, an, st, f0, ld0, f1, ld1, lx, c1, c2, c3]
      rw [AE_drawn (by kernel_rfl)]
      simp only [↓KP_nil, ↓KP_seq, ↓KP_seqE, ↓KP_seqR, ↓KP_block, ↓KP_blockE, ↓KP_blockR, ↓AW_skip, ↓AW_region, ↓AW_drawn, ↓AW_seq, ↓AW_cond, ↓AW_block, ↓AW_exit, ↓AW_scope, ↓AW_label, ↓AW_ret, ↓AW_loop, ↓AE_nil, ↓AE_step, ↓AE_guard, ↓KA_some, ↓KA_none, ↓CondK_true, ↓CondK_false, ↓GuardK_some, ↓GuardW_yes, ↓GuardW_tf, ↓GuardW_ft, ↓GuardW_undef, ↓dstAt_zero, ↓dstAt_succ, ↓AR_some, ↓AR_none, ↓AVK_some, ↓AVM_some, ↓AHK_some, CondK_true, CondK_false, GuardW_yes, GuardW_tf, GuardW_ft, GuardW_undef, Qfun_normal, Qfun_ret, Qloop_normal, Qloop_exit, Qloop_ret, AR_some, AR_none, AR_map, AR_mapH, AR_ite, AVK_some, AVK_none, AVK_map, AVK_ite, AVM_some, AVM_none, AHK_some, AHK_none, AHK_ite, aop, gs, List.length_set, evalOp, ofValue, ofCell, isConst, abin, aint, astrop, ashift, aun, acall1, abuiltin, aresults, aresult, packed, List.nil_append, List.append_nil, List.map_cons, List.map_nil, List.getElem?_toArray, List.getElem?_cons_zero, List.getElem?_cons_succ, Option.bind_some, Option.map_some, Option.map_none, Nat.reduceEqDiff, Nat.reduceLT, Int.reduceLT, Int.reduceLE, Int.reduceGT, Int.reduceGE,  Nat.reduceAdd, Nat.reduceSub, ↓reduceIte, reduceCtorEq, Bool.false_eq_true, Bool.true_eq_false, Bool.not_true, Bool.not_false, true_and, and_true, false_and, and_false, not_true_eq_false, not_false_eq_true, forall_const, false_implies, true_implies, implies_true, decide_true, decide_false, or_self, false_or, or_false, true_or, or_true, hl, e7, e4, e8, e9, hlt, i1, o1, z, zc, an, st, f0, ld0, f1, ld1, lx, c1, c2, c3, t13, k1, k2, hw', wi]
      refine ⟨k - 1, by omega, ⟨Nat.le_trans hn2 hn3, fun k o hk => hfr3 k o (hfr2 k o hk) (fun hh => by have := AH.get_lt hk; omega) fun hh => by have := hbuf k (hbuf2 k hh); have := AH.get_lt hk; omega⟩, i + 1, _, by omega, rfl, hb3, fun k hk => ?_, ?_, hpt⟩
      · rcases hbuf3 k hk with hh | hh
        · exact hbuf k (hbuf2 k hh)
        · omega
      · rw [List.length_append]; omega
    · rw [List.drop_of_length_le (by omega), pt] at hpt
      obtain ⟨r4, h4, hlen, rfl, rfl⟩ := (Len_run (D := drawnOf Try.prog T17) h51 (n - 1) hb).out
      rw [show n - 1 + 1 = n by omega] at hlen
      by_cases c4 : (acc.length : Int) > 65535
      · rw [if_pos c4] at hpt
        simp only [↓KP_nil, ↓KP_seq, ↓KP_seqE, ↓KP_seqR, ↓KP_block, ↓KP_blockE, ↓KP_blockR, ↓AW_skip, ↓AW_region, ↓AW_drawn, ↓AW_seq, ↓AW_cond, ↓AW_block, ↓AW_exit, ↓AW_scope, ↓AW_label, ↓AW_ret, ↓AW_loop, ↓AE_nil, ↓AE_step, ↓AE_guard, ↓KA_some, ↓KA_none, ↓CondK_true, ↓CondK_false, ↓GuardK_some, ↓GuardW_yes, ↓GuardW_tf, ↓GuardW_ft, ↓GuardW_undef, ↓dstAt_zero, ↓dstAt_succ, ↓AR_some, ↓AR_none, ↓AVK_some, ↓AVM_some, ↓AHK_some, CondK_true, CondK_false, GuardW_yes, GuardW_tf, GuardW_ft, GuardW_undef, Qfun_normal, Qfun_ret, Qloop_normal, Qloop_exit, Qloop_ret, AR_some, AR_none, AR_map, AR_mapH, AR_ite, AVK_some, AVK_none, AVK_map, AVK_ite, AVM_some, AVM_none, AHK_some, AHK_none, AHK_ite, aop, gs, List.length_set, evalOp, ofValue, ofCell, isConst, abin, aint, astrop, ashift, aun, acall1, abuiltin, aresults, aresult, packed, List.nil_append, List.append_nil, List.map_cons, List.map_nil, List.getElem?_toArray, List.getElem?_cons_zero, List.getElem?_cons_succ, Option.bind_some, Option.map_some, Option.map_none, Nat.reduceEqDiff, Nat.reduceLT, Int.reduceLT, Int.reduceLE, Int.reduceGT, Int.reduceGE,  Nat.reduceAdd, Nat.reduceSub, ↓reduceIte, reduceCtorEq, Bool.false_eq_true, Bool.true_eq_false, Bool.not_true, Bool.not_false, true_and, and_true, false_and, and_false, not_true_eq_false, not_false_eq_true, forall_const, false_implies, true_implies, implies_true, decide_true, decide_false, or_self, false_or, or_false, true_or, or_true, hl, e7, e4, e8, e9, hlt, hlen, c4, ← hpt]
        exact ⟨hn1, hfr⟩
      · rw [if_neg c4] at hpt
        obtain ⟨r5, h5, hstr, rfl, hn5, hfr5⟩ := (String_run (T := T17) h52 (n - 1) hb (by omega)).out
        rw [show n - 1 + 1 = n by omega] at hstr
        simp only [↓KP_nil, ↓KP_seq, ↓KP_seqE, ↓KP_seqR, ↓KP_block, ↓KP_blockE, ↓KP_blockR, ↓AW_skip, ↓AW_region, ↓AW_drawn, ↓AW_seq, ↓AW_cond, ↓AW_block, ↓AW_exit, ↓AW_scope, ↓AW_label, ↓AW_ret, ↓AW_loop, ↓AE_nil, ↓AE_step, ↓AE_guard, ↓KA_some, ↓KA_none, ↓CondK_true, ↓CondK_false, ↓GuardK_some, ↓GuardW_yes, ↓GuardW_tf, ↓GuardW_ft, ↓GuardW_undef, ↓dstAt_zero, ↓dstAt_succ, ↓AR_some, ↓AR_none, ↓AVK_some, ↓AVM_some, ↓AHK_some, CondK_true, CondK_false, GuardW_yes, GuardW_tf, GuardW_ft, GuardW_undef, Qfun_normal, Qfun_ret, Qloop_normal, Qloop_exit, Qloop_ret, AR_some, AR_none, AR_map, AR_mapH, AR_ite, AVK_some, AVK_none, AVK_map, AVK_ite, AVM_some, AVM_none, AHK_some, AHK_none, AHK_ite, aop, gs, List.length_set, evalOp, ofValue, ofCell, isConst, abin, aint, astrop, ashift, aun, acall1, abuiltin, aresults, aresult, packed, List.nil_append, List.append_nil, List.map_cons, List.map_nil, List.getElem?_toArray, List.getElem?_cons_zero, List.getElem?_cons_succ, Option.bind_some, Option.map_some, Option.map_none, Nat.reduceEqDiff, Nat.reduceLT, Int.reduceLT, Int.reduceLE, Int.reduceGT, Int.reduceGE,  Nat.reduceAdd, Nat.reduceSub, ↓reduceIte, reduceCtorEq, Bool.false_eq_true, Bool.true_eq_false, Bool.not_true, Bool.not_false, true_and, and_true, false_and, and_false, not_true_eq_false, not_false_eq_true, forall_const, false_implies, true_implies, implies_true, decide_true, decide_false, or_self, false_or, or_false, true_or, or_true, hl, e7, e4, e8, e9, hlt, hlen, c4, hstr, ← hpt]
        exact ⟨by omega, fun k o hk => hfr5 k o (hfr k o hk) fun hh => by have := hbuf k hh; have := AH.get_lt hk; omega⟩
  · simp only [↓KP_nil, ↓KP_seq, ↓KP_seqE, ↓KP_seqR, ↓KP_block, ↓KP_blockE, ↓KP_blockR, ↓AW_skip, ↓AW_region, ↓AW_drawn, ↓AW_seq, ↓AW_cond, ↓AW_block, ↓AW_exit, ↓AW_scope, ↓AW_label, ↓AW_ret, ↓AW_loop, ↓AE_nil, ↓AE_step, ↓AE_guard, ↓KA_some, ↓KA_none, ↓CondK_true, ↓CondK_false, ↓GuardK_some, ↓GuardW_yes, ↓GuardW_tf, ↓GuardW_ft, ↓GuardW_undef, ↓dstAt_zero, ↓dstAt_succ, ↓AR_some, ↓AR_none, ↓AVK_some, ↓AVM_some, ↓AHK_some, CondK_true, CondK_false, GuardW_yes, GuardW_tf, GuardW_ft, GuardW_undef, Qfun_normal, Qfun_ret, Qloop_normal, Qloop_exit, Qloop_ret, AR_some, AR_none, AR_map, AR_mapH, AR_ite, AVK_some, AVK_none, AVK_map, AVK_ite, AVM_some, AVM_none, AHK_some, AHK_none, AHK_ite, aop, gs, List.length_set, evalOp, ofValue, ofCell, isConst, abin, aint, astrop, ashift, aun, acall1, abuiltin, aresults, aresult, packed, List.nil_append, List.append_nil, List.map_cons, List.map_nil, List.getElem?_toArray, List.getElem?_cons_zero, List.getElem?_cons_succ, Option.bind_some, Option.map_some, Option.map_none, Nat.reduceEqDiff, Nat.reduceLT, Int.reduceLT, Int.reduceLE, Int.reduceGT, Int.reduceGE,  Nat.reduceAdd, Nat.reduceSub, ↓reduceIte, reduceCtorEq, Bool.false_eq_true, Bool.true_eq_false, Bool.not_true, Bool.not_false, true_and, and_true, false_and, and_false, not_true_eq_false, not_false_eq_true, forall_const, false_implies, true_implies, implies_true, decide_true, decide_false, or_self, false_or, or_false, true_or, or_true, hl, e0]
    exact ⟨⟨by simp [AH.push_n], old0⟩, 0, [], by omega, rfl, ⟨_, _, hg0, .inl rfl, .inl ⟨rfl, rfl⟩⟩, (by rintro k ⟨p, m, hk⟩; rw [hg0] at hk; simp [bobj] at hk), by simp, by simpa using hR⟩
end Go.Proofs.YtikkpmmhejjpaaaM
