/- A text's builder that lies in the machine's memory: what its functions do. -/
import Derived.Test.YtobhmahlenjheaaS4
import Derived.Test.YtobhmahlenjheaaChecked
import Derived.KernelRfl
set_option linter.unusedSimpArgs false
set_option linter.unusedVariables false
namespace Go.Proofs.YtobhmahlenjheaaM
open Go Go.RowKit
variable {Γ : Hooks} {D : Drawn}

theorem bfa0 (id o : Nat) : afieldAddr Try.prog 95 (.ptr id o) 0 = some (.ptr id o) := by kernel_rfl
theorem bfa1 (id o : Nat) : afieldAddr Try.prog 95 (.ptr id o) 1 = some (.ptr id (o + 1)) := by kernel_rfl
theorem beq1 : aeqOp Try.prog .eql 93 false true (.val (.pointer none)) (.val (.pointer none)) = some (.bool true) := by kernel_rfl
theorem beq2 (id o : Nat) : aeqOp Try.prog .eql 93 false true (.ptr id o) (.val (.pointer none)) = some (.bool false) := by kernel_rfl
theorem beq3 (id o : Nat) : aeqOp Try.prog .neq 93 false false (.ptr id o) (.ptr id o) = some (.bool false) := by
  have e : aeq Try.prog 8 93 (.ptr id o) (.ptr id o) = some true := by
    simp only [aeq, Try.underlying93]
    rw [if_pos ⟨trivial, trivial, by kernel_rfl⟩]
  unfold aeqOp
  rw [e]
  rfl
theorem bsz86 : szOf Try.prog 93 = some 1 := by kernel_rfl
theorem bsz70 : szOf Try.prog 28 = some 1 := by kernel_rfl
theorem bsz88 : szOf Try.prog 95 = some 2 := by kernel_rfl
theorem bag86 : isAg Try.prog 93 = some false := by kernel_rfl
theorem bag70 : isAg Try.prog 28 = some false := by kernel_rfl

/-- The builder lies in its block behind so many cells. -/
def BLies (t : TypeId) (a b : Nat) : Prop := liesAt Try.prog Try.prog.depth t ((a + (b + 2)) / Try.prog.cellsOf t) a 95 1 = true
theorem blies : BLies 95 0 0 := by unfold BLies; kernel_rfl

/-- The block of a builder: where it thinks it lies, and its bytes; among other cells. -/
def bobj (t : TypeId) (pre post : List AV) (p v : AV) : AO := .cells (pre ++ p :: v :: post) true 0 (some (t, true))

section
variable {h : AH} {id : Nat} {t : TypeId} {pre post : List AV} {p v : AV} (hg : h.get id = some (bobj t pre post p v))
include hg
theorem bload0 : aload Try.prog 93 (.ptr id pre.length) h = some p := by
  simp only [aload, hg, bobj]
  unfold apart
  rw [bag86]
  simp
theorem bload1 : aload Try.prog 28 (.ptr id (pre.length + 1)) h = some v := by
  simp only [aload, hg, bobj]
  unfold apart
  rw [bag70]
  simp
theorem bstore0 (q : AV) (hq : q.cells = some [q]) (ho : q.one = true) : astore Try.prog 93 (.ptr id pre.length) q h = some (h.set id (bobj t pre post q v)) := by
  simp only [astore, hg, bobj, hq, bsz86]
  rw [if_pos (by simp [ho])]
  congr 3
  unfold splice
  simp [List.drop_append]
theorem bstore1 (q : AV) (hq : q.cells = some [q]) (ho : q.one = true) : astore Try.prog 28 (.ptr id (pre.length + 1)) q h = some (h.set id (bobj t pre post p q)) := by
  simp only [astore, hg, bobj, hq, bsz70]
  rw [if_pos ⟨by simp, by omega, by simp; omega, by simp [ho]⟩]
  congr 3
  unfold splice
  have e1 : (pre ++ p :: v :: post).take (pre.length + 1) = pre ++ [p] := by rw [List.take_length_add_append]; rfl
  have e2 : (pre ++ p :: v :: post).drop (pre.length + 1 + [q].length) = post := by rw [show pre.length + 1 + [q].length = pre.length + 2 from rfl, List.drop_length_add_append]; rfl
  rw [e1, e2]; simp
theorem bconv1 : aconv Try.prog 93 176 (.ptr id pre.length) h = some (.ptr id pre.length, h) := by
  simp only [aconv, Try.underlying93, Try.underlying176, hg, bobj, bsz88]
  rw [if_pos (by simp)]
theorem bconv2 (hlies : BLies t pre.length post.length) : aconv Try.prog 176 93 (.ptr id pre.length) h = some (.ptr id pre.length, h) := by
  simp only [aconv, Try.underlying93, Try.underlying176, hg, bobj, bsz88]
  rw [if_pos (by rw [show (pre ++ p :: v :: post).length = pre.length + (post.length + 2) by simp]; exact hlies)]

set_option maxRecDepth 100000 in
set_option maxHeartbeats 1000000 in
theorem copyCheck_run (hlies : BLies t pre.length post.length) (h69 : Γ 106 = none) (h77 : Γ 128 = some handsBack) (n : Nat) (hp : p = .val (.pointer none) ∨ p = .ptr id pre.length) :
    AR (acall Try.prog Γ D (n + 1) 106 [.ptr id pre.length] h) fun r h' => h' = h.set id (bobj t pre post (.ptr id pre.length) v) := by
  refine AR_call h69 Try.func106 rfl _ _ fun env hl he => ?_
  have e0 := he 0
  simp only [List.getD_cons_zero, List.getD_cons_succ] at e0
  simp only [Try.f106] at hl ⊢
  simp only [List.length_cons, List.length_nil, Nat.reduceAdd, Nat.reduceSub] at hl
  have c77 : acall Try.prog Γ D n 128 [.ptr id pre.length] h = some (.ptr id pre.length, h) := acall_hook h77 _ _ _
  have l0 := bload0 hg
  have v1 := bconv1 hg
  have v2 := bconv2 hg hlies
  have s0 := bstore0 hg (.ptr id pre.length) rfl rfl
  rcases hp with rfl | rfl
  · simp only [↓KP_nil, ↓KP_seq, ↓KP_seqE, ↓KP_seqR, ↓KP_block, ↓KP_blockE, ↓KP_blockR, ↓AW_skip, ↓AW_region, ↓AW_drawn, ↓AW_seq, ↓AW_cond, ↓AW_block, ↓AW_exit, ↓AW_scope, ↓AW_label, ↓AW_ret, ↓AW_loop, ↓AE_nil, ↓AE_step, ↓AE_guard, ↓KA_some, ↓KA_none, ↓CondK_true, ↓CondK_false, ↓GuardK_some, ↓GuardW_yes, ↓GuardW_tf, ↓GuardW_ft, ↓GuardW_undef, ↓dstAt_zero, ↓dstAt_succ, ↓AR_some, ↓AR_none, ↓AVK_some, ↓AVM_some, ↓AHK_some, CondK_true, CondK_false, GuardW_yes, GuardW_tf, GuardW_ft, GuardW_undef, Qfun_normal, Qfun_ret, Qloop_normal, Qloop_exit, Qloop_ret, AR_some, AR_none, AR_map, AR_mapH, AR_ite, AVK_some, AVK_none, AVK_map, AVK_ite, AVM_some, AVM_none, AHK_some, AHK_none, AHK_ite, aop, gs, List.length_set, evalOp, ofValue, ofCell, isConst, abin, aint, astrop, ashift, aun, acall1, abuiltin, alenOf, aresults, aresult, packed, List.nil_append, List.append_nil, List.map_cons, List.map_nil, List.getElem?_toArray, List.getElem?_cons_zero, List.getElem?_cons_succ, Option.bind_some, Option.map_some, Option.map_none, Nat.reduceEqDiff, Nat.reduceLT, Int.reduceLT, Int.reduceLE, Int.reduceGT, Int.reduceGE,  Nat.reduceAdd, Nat.reduceSub, ↓reduceIte, reduceCtorEq, Bool.false_eq_true, Bool.true_eq_false, Bool.not_true, Bool.not_false, true_and, and_true, false_and, and_false, not_true_eq_false, not_false_eq_true, forall_const, false_implies, true_implies, implies_true, decide_true, decide_false, or_self, false_or, or_false, true_or, or_true, hl, e0, bfa0, l0, beq1, v1, v2, c77, s0]
  · simp only [↓KP_nil, ↓KP_seq, ↓KP_seqE, ↓KP_seqR, ↓KP_block, ↓KP_blockE, ↓KP_blockR, ↓AW_skip, ↓AW_region, ↓AW_drawn, ↓AW_seq, ↓AW_cond, ↓AW_block, ↓AW_exit, ↓AW_scope, ↓AW_label, ↓AW_ret, ↓AW_loop, ↓AE_nil, ↓AE_step, ↓AE_guard, ↓KA_some, ↓KA_none, ↓CondK_true, ↓CondK_false, ↓GuardK_some, ↓GuardW_yes, ↓GuardW_tf, ↓GuardW_ft, ↓GuardW_undef, ↓dstAt_zero, ↓dstAt_succ, ↓AR_some, ↓AR_none, ↓AVK_some, ↓AVM_some, ↓AHK_some, CondK_true, CondK_false, GuardW_yes, GuardW_tf, GuardW_ft, GuardW_undef, Qfun_normal, Qfun_ret, Qloop_normal, Qloop_exit, Qloop_ret, AR_some, AR_none, AR_map, AR_mapH, AR_ite, AVK_some, AVK_none, AVK_map, AVK_ite, AVM_some, AVM_none, AHK_some, AHK_none, AHK_ite, aop, gs, List.length_set, evalOp, ofValue, ofCell, isConst, abin, aint, astrop, ashift, aun, acall1, abuiltin, alenOf, aresults, aresult, packed, List.nil_append, List.append_nil, List.map_cons, List.map_nil, List.getElem?_toArray, List.getElem?_cons_zero, List.getElem?_cons_succ, Option.bind_some, Option.map_some, Option.map_none, Nat.reduceEqDiff, Nat.reduceLT, Int.reduceLT, Int.reduceLE, Int.reduceGT, Int.reduceGE,  Nat.reduceAdd, Nat.reduceSub, ↓reduceIte, reduceCtorEq, Bool.false_eq_true, Bool.true_eq_false, Bool.not_true, Bool.not_false, true_and, and_true, false_and, and_false, not_true_eq_false, not_false_eq_true, forall_const, false_implies, true_implies, implies_true, decide_true, decide_false, or_self, false_or, or_false, true_or, or_true, hl, e0, bfa0, l0, beq2, beq3]
    exact (AH.set_same hg).symm
end

theorem bobj_ne {t : TypeId} {pre post : List AV} {p v : AV} {c : List AV} {e : TypeId} (hk : some (bobj t pre post p v) = some (AO.cells c true 0 (some (e, false)))) : False := by
  simp [bobj] at hk
theorem bobj_inj {t : TypeId} {pre post : List AV} {p v p' v' : AV} (hk : some (bobj t pre post p v) = some (bobj t pre post p' v')) : v = v' := by
  simp only [bobj, Option.some.injEq, AO.cells.injEq, List.append_cancel_left_eq, List.cons.injEq, and_true] at hk
  exact hk.2
theorem bt70 : ByteTy Try.prog 28 5 := ⟨Try.underlying28, Try.underlying5, by kernel_rfl⟩

/-- A builder that holds a text. -/
def Bld (t : TypeId) (pre post : List AV) (h : AH) (id : Nat) (bs : List UInt8) : Prop := ∃ p v, h.get id = some (bobj t pre post p v) ∧ (p = .val (.pointer none) ∨ p = .ptr id pre.length) ∧ BS 5 v h bs
/-- The block of a builder's bytes. -/
def bufOf (t : TypeId) (pre post : List AV) (h : AH) (id k : Nat) : Prop := ∃ p n, h.get id = some (bobj t pre post p (.sl k 0 n 1))

set_option maxRecDepth 100000 in
set_option maxHeartbeats 1000000 in
theorem WriteString_run {t : TypeId} {pre post : List AV} (hlies : BLies t pre.length post.length) (h69 : Γ 106 = none) (h77 : Γ 128 = some handsBack) (h50 : Γ 66 = none) (n : Nat) (hn : 2 ≤ n) {h : AH} {id : Nat} {bs : List UInt8} (hb : Bld t pre post h id bs) (l : List UInt8) (hl' : bs.length + l.length < 100000000000) :
    AR (acall Try.prog Γ D (n + 1) 66 [.ptr id pre.length, .str l] h) fun r h' => r = .tup [.int .i64 l.length, .val .nilIface] ∧ Bld t pre post h' id (bs ++ l) ∧ (∀ k, bufOf t pre post h' id k → bufOf t pre post h id k ∨ h.n ≤ k) ∧ h.n ≤ h'.n ∧ ∀ k o, h.get k = some o → k ≠ id → ¬ bufOf t pre post h id k → h'.get k = some o := by
  obtain ⟨p, v, hg, hp, hbs⟩ := hb
  refine AR_call h50 Try.func66 rfl _ _ fun env hl he => ?_
  have e0 := he 0; have e1 := he 1
  simp only [List.getD_cons_zero, List.getD_cons_succ] at e0 e1
  simp only [Try.f66] at hl ⊢
  simp only [List.length_cons, List.length_nil, Nat.reduceAdd, Nat.reduceSub] at hl
  obtain ⟨r1, h1, hc, rfl⟩ := (copyCheck_run (D := D) hg hlies h69 h77 (n - 1) hp).out
  rw [show n - 1 + 1 = n by omega] at hc
  have hg1 : (h.set id (bobj t pre post (.ptr id pre.length) v)).get id = some (bobj t pre post (.ptr id pre.length) v) := AH.get_set_same hg
  have hbs1 : BS 5 v (h.set id (bobj t pre post (.ptr id pre.length) v)) bs := by
    rcases hbs with hh | ⟨k, hb0, rfl, hk⟩
    · exact .inl hh
    · refine .inr ⟨k, hb0, rfl, ?_⟩
      have hne : k ≠ id := fun hh => by rw [hh, hg] at hk; exact bobj_ne hk
      rw [AH.get_set_ne hne]; exact hk
  obtain ⟨v', h2, hap, hbs2, hc2, ho2, hnew, hn2, hfr⟩ := appendS bt70 Try.underlying9 hbs1 l hl'
  have hv1 : ∀ m, v ≠ .sl id 0 m 1 := fun m hh => by
    subst hh
    rcases hbs with ⟨_, hh⟩ | ⟨k, _, hh, hk⟩
    · cases hh
    · cases hh; rw [hg] at hk; exact bobj_ne hk
  have hg2 := hfr id _ hg1 hv1
  have l1 := bload1 hg1
  have s1 := bstore1 hg2 v' hc2 ho2
  simp only [↓KP_nil, ↓KP_seq, ↓KP_seqE, ↓KP_seqR, ↓KP_block, ↓KP_blockE, ↓KP_blockR, ↓AW_skip, ↓AW_region, ↓AW_drawn, ↓AW_seq, ↓AW_cond, ↓AW_block, ↓AW_exit, ↓AW_scope, ↓AW_label, ↓AW_ret, ↓AW_loop, ↓AE_nil, ↓AE_step, ↓AE_guard, ↓KA_some, ↓KA_none, ↓CondK_true, ↓CondK_false, ↓GuardK_some, ↓GuardW_yes, ↓GuardW_tf, ↓GuardW_ft, ↓GuardW_undef, ↓dstAt_zero, ↓dstAt_succ, ↓AR_some, ↓AR_none, ↓AVK_some, ↓AVM_some, ↓AHK_some, CondK_true, CondK_false, GuardW_yes, GuardW_tf, GuardW_ft, GuardW_undef, Qfun_normal, Qfun_ret, Qloop_normal, Qloop_exit, Qloop_ret, AR_some, AR_none, AR_map, AR_mapH, AR_ite, AVK_some, AVK_none, AVK_map, AVK_ite, AVM_some, AVM_none, AHK_some, AHK_none, AHK_ite, aop, gs, List.length_set, evalOp, ofValue, ofCell, isConst, abin, aint, astrop, ashift, aun, acall1, abuiltin, alenOf, aresults, aresult, packed, List.nil_append, List.append_nil, List.map_cons, List.map_nil, List.getElem?_toArray, List.getElem?_cons_zero, List.getElem?_cons_succ, Option.bind_some, Option.map_some, Option.map_none, Nat.reduceEqDiff, Nat.reduceLT, Int.reduceLT, Int.reduceLE, Int.reduceGT, Int.reduceGE,  Nat.reduceAdd, Nat.reduceSub, ↓reduceIte, reduceCtorEq, Bool.false_eq_true, Bool.true_eq_false, Bool.not_true, Bool.not_false, true_and, and_true, false_and, and_false, not_true_eq_false, not_false_eq_true, forall_const, false_implies, true_implies, implies_true, decide_true, decide_false, or_self, false_or, or_false, true_or, or_true, hl, e0, e1, Try.underlying9, hc, bfa1, l1, hap, s1]
  have hv2 : ∀ m, v' ≠ .sl id 0 m 1 := fun m hh => by
    subst hh
    rcases hbs2 with ⟨_, hh⟩ | ⟨k, _, hh, hk⟩
    · cases hh
    · cases hh; rw [hg2] at hk; exact bobj_ne hk
  have hbuf : ∀ k, bufOf t pre post (h2.set id (bobj t pre post (.ptr id pre.length) v')) id k → bufOf t pre post h id k ∨ h.n ≤ k := by
    rintro k ⟨p', m, hk⟩
    rw [AH.get_set_same hg2] at hk
    have hk2 := bobj_inj hk
    rcases hnew k m hk2 with ⟨m', hm⟩ | hm
    · exact .inl ⟨p, m', by rw [hg, hm]⟩
    · rw [AH.set_n] at hm; exact .inr hm
  refine ⟨⟨.ptr id pre.length, v', AH.get_set_same hg2, .inr rfl, ?_⟩, hbuf, by rw [AH.set_n]; rw [AH.set_n] at hn2; exact hn2, fun k o hk hne hnb => ?_⟩
  · rcases hbs2 with hh | ⟨k, hb0, rfl, hk⟩
    · exact .inl hh
    · refine .inr ⟨k, hb0, rfl, ?_⟩
      rw [AH.get_set_ne (fun hh => hv2 _ (by rw [hh]))]; exact hk
  · rw [AH.get_set_ne hne]
    refine hfr k o (by rw [AH.get_set_ne hne]; exact hk) fun m hh => hnb ⟨p, m, by rw [hg, hh]⟩

set_option maxRecDepth 100000 in
set_option maxHeartbeats 1000000 in
theorem Len_run {t : TypeId} {pre post : List AV} (h51 : Γ 105 = none) (n : Nat) {h : AH} {id : Nat} {bs : List UInt8} (hb : Bld t pre post h id bs) :
    AR (acall Try.prog Γ D (n + 1) 105 [.ptr id pre.length] h) fun r h' => r = .int .i64 bs.length ∧ h' = h := by
  obtain ⟨p, v, hg, hp, hbs⟩ := hb
  refine AR_call h51 Try.func105 rfl _ _ fun env hl he => ?_
  have e0 := he 0
  simp only [List.getD_cons_zero, List.getD_cons_succ] at e0
  simp only [Try.f105] at hl ⊢
  simp only [List.length_cons, List.length_nil, Nat.reduceAdd, Nat.reduceSub] at hl
  have l1 := bload1 hg
  rcases hbs with ⟨rfl, rfl⟩ | ⟨k, hb0, rfl, hk⟩
  · simp only [↓KP_nil, ↓KP_seq, ↓KP_seqE, ↓KP_seqR, ↓KP_block, ↓KP_blockE, ↓KP_blockR, ↓AW_skip, ↓AW_region, ↓AW_drawn, ↓AW_seq, ↓AW_cond, ↓AW_block, ↓AW_exit, ↓AW_scope, ↓AW_label, ↓AW_ret, ↓AW_loop, ↓AE_nil, ↓AE_step, ↓AE_guard, ↓KA_some, ↓KA_none, ↓CondK_true, ↓CondK_false, ↓GuardK_some, ↓GuardW_yes, ↓GuardW_tf, ↓GuardW_ft, ↓GuardW_undef, ↓dstAt_zero, ↓dstAt_succ, ↓AR_some, ↓AR_none, ↓AVK_some, ↓AVM_some, ↓AHK_some, CondK_true, CondK_false, GuardW_yes, GuardW_tf, GuardW_ft, GuardW_undef, Qfun_normal, Qfun_ret, Qloop_normal, Qloop_exit, Qloop_ret, AR_some, AR_none, AR_map, AR_mapH, AR_ite, AVK_some, AVK_none, AVK_map, AVK_ite, AVM_some, AVM_none, AHK_some, AHK_none, AHK_ite, aop, gs, List.length_set, evalOp, ofValue, ofCell, isConst, abin, aint, astrop, ashift, aun, acall1, abuiltin, alenOf, aresults, aresult, packed, List.nil_append, List.append_nil, List.map_cons, List.map_nil, List.getElem?_toArray, List.getElem?_cons_zero, List.getElem?_cons_succ, Option.bind_some, Option.map_some, Option.map_none, Nat.reduceEqDiff, Nat.reduceLT, Int.reduceLT, Int.reduceLE, Int.reduceGT, Int.reduceGE,  Nat.reduceAdd, Nat.reduceSub, ↓reduceIte, reduceCtorEq, Bool.false_eq_true, Bool.true_eq_false, Bool.not_true, Bool.not_false, true_and, and_true, false_and, and_false, not_true_eq_false, not_false_eq_true, forall_const, false_implies, true_implies, implies_true, decide_true, decide_false, or_self, false_or, or_false, true_or, or_true, hl, e0, Try.underlying28, bfa1, l1]
    rfl
  · simp only [↓KP_nil, ↓KP_seq, ↓KP_seqE, ↓KP_seqR, ↓KP_block, ↓KP_blockE, ↓KP_blockR, ↓AW_skip, ↓AW_region, ↓AW_drawn, ↓AW_seq, ↓AW_cond, ↓AW_block, ↓AW_exit, ↓AW_scope, ↓AW_label, ↓AW_ret, ↓AW_loop, ↓AE_nil, ↓AE_step, ↓AE_guard, ↓KA_some, ↓KA_none, ↓CondK_true, ↓CondK_false, ↓GuardK_some, ↓GuardW_yes, ↓GuardW_tf, ↓GuardW_ft, ↓GuardW_undef, ↓dstAt_zero, ↓dstAt_succ, ↓AR_some, ↓AR_none, ↓AVK_some, ↓AVM_some, ↓AHK_some, CondK_true, CondK_false, GuardW_yes, GuardW_tf, GuardW_ft, GuardW_undef, Qfun_normal, Qfun_ret, Qloop_normal, Qloop_exit, Qloop_ret, AR_some, AR_none, AR_map, AR_mapH, AR_ite, AVK_some, AVK_none, AVK_map, AVK_ite, AVM_some, AVM_none, AHK_some, AHK_none, AHK_ite, aop, gs, List.length_set, evalOp, ofValue, ofCell, isConst, abin, aint, astrop, ashift, aun, acall1, abuiltin, alenOf, aresults, aresult, packed, List.nil_append, List.append_nil, List.map_cons, List.map_nil, List.getElem?_toArray, List.getElem?_cons_zero, List.getElem?_cons_succ, Option.bind_some, Option.map_some, Option.map_none, Nat.reduceEqDiff, Nat.reduceLT, Int.reduceLT, Int.reduceLE, Int.reduceGT, Int.reduceGE,  Nat.reduceAdd, Nat.reduceSub, ↓reduceIte, reduceCtorEq, Bool.false_eq_true, Bool.true_eq_false, Bool.not_true, Bool.not_false, true_and, and_true, false_and, and_false, not_true_eq_false, not_false_eq_true, forall_const, false_implies, true_implies, implies_true, decide_true, decide_false, or_self, false_or, or_false, true_or, or_true, hl, e0, Try.underlying28, bfa1, l1]

theorem text0 (h : AH) : aunsafeString Try.prog 152 (.val (.pointer none)) 0 h = some (.str [], h) := by simp [aunsafeString]
theorem textN {h : AH} {k : Nat} {bs : List UInt8} (hb0 : bs ≠ []) (hl : bs.length < 100000000000) (hk : h.get k = some (.cells (bs.map cellB) true 0 (some (5, false)))) :
    aunsafeString Try.prog 152 (.ptr k 0) bs.length h = some (.str bs, h.set k (.cells (bs.map cellB) false 0 (some (5, false)))) := by
  have h0 : 0 < bs.length := List.length_pos_iff.2 hb0
  have c1 : Try.prog.cellsOf 5 = 1 := by kernel_rfl
  simp only [aunsafeString, Try.underlying152, hk]
  rw [if_neg (by omega), if_pos ⟨trivial, c1, by simp⟩]
  simp only [List.drop_zero, Int.toNat_natCast, take_cells, abytes_cells, Option.map_some]

set_option maxRecDepth 100000 in
set_option maxHeartbeats 1000000 in
theorem String_run {t : TypeId} {pre post : List AV} {T : PTab} (h52 : Γ 67 = none) (n : Nat) {h : AH} {id : Nat} {bs : List UInt8} (hb : Bld t pre post h id bs) (hl' : bs.length < 100000000000) :
    AR (acall Try.prog Γ (drawnOf Try.prog T) (n + 1) 67 [.ptr id pre.length] h) fun r h' => r = .str bs ∧ h'.n = h.n ∧ ∀ k o, h.get k = some o → ¬ bufOf t pre post h id k → h'.get k = some o := by
  obtain ⟨p, v, hg, hp, hbs⟩ := hb
  refine AR_call h52 Try.func67 rfl _ _ fun env hl he => ?_
  have e0 := he 0
  simp only [List.getD_cons_zero, List.getD_cons_succ] at e0
  simp only [Try.f67] at hl ⊢
  simp only [List.length_cons, List.length_nil, Nat.reduceAdd, Nat.reduceSub] at hl
  have l1 := bload1 hg
  simp only [↓KP_nil, ↓KP_seq, ↓KP_seqE, ↓KP_seqR, ↓KP_block, ↓KP_blockE, ↓KP_blockR, ↓AW_skip, ↓AW_region, ↓AW_drawn, ↓AW_seq, ↓AW_cond, ↓AW_block, ↓AW_exit, ↓AW_scope, ↓AW_label, ↓AW_ret, ↓AW_loop, ↓AE_nil, ↓AE_step, ↓AE_guard, ↓KA_some, ↓KA_none, ↓CondK_true, ↓CondK_false, ↓GuardK_some, ↓GuardW_yes, ↓GuardW_tf, ↓GuardW_ft, ↓GuardW_undef, ↓dstAt_zero, ↓dstAt_succ, ↓AR_some, ↓AR_none, ↓AVK_some, ↓AVM_some, ↓AHK_some, CondK_true, CondK_false, GuardW_yes, GuardW_tf, GuardW_ft, GuardW_undef, Qfun_normal, Qfun_ret, Qloop_normal, Qloop_exit, Qloop_ret, AR_some, AR_none, AR_map, AR_mapH, AR_ite, AVK_some, AVK_none, AVK_map, AVK_ite, AVM_some, AVM_none, AHK_some, AHK_none, AHK_ite, aop, gs, List.length_set, evalOp, ofValue, ofCell, isConst, abin, aint, astrop, ashift, aun, acall1, abuiltin, alenOf, aresults, aresult, packed, List.nil_append, List.append_nil, List.map_cons, List.map_nil, List.getElem?_toArray, List.getElem?_cons_zero, List.getElem?_cons_succ, Option.bind_some, Option.map_some, Option.map_none, Nat.reduceEqDiff, Nat.reduceLT, Int.reduceLT, Int.reduceLE, Int.reduceGT, Int.reduceGE,  Nat.reduceAdd, Nat.reduceSub, ↓reduceIte, reduceCtorEq, Bool.false_eq_true, Bool.true_eq_false, Bool.not_true, Bool.not_false, true_and, and_true, false_and, and_false, not_true_eq_false, not_false_eq_true, forall_const, false_implies, true_implies, implies_true, decide_true, decide_false, or_self, false_or, or_false, true_or, or_true, hl, e0]
  rw [AE_drawn (by kernel_rfl)]
  rcases hbs with ⟨rfl, rfl⟩ | ⟨k, hb0, rfl, hk⟩
  · have t0 := text0 h
    simp only [↓KP_nil, ↓KP_seq, ↓KP_seqE, ↓KP_seqR, ↓KP_block, ↓KP_blockE, ↓KP_blockR, ↓AW_skip, ↓AW_region, ↓AW_drawn, ↓AW_seq, ↓AW_cond, ↓AW_block, ↓AW_exit, ↓AW_scope, ↓AW_label, ↓AW_ret, ↓AW_loop, ↓AE_nil, ↓AE_step, ↓AE_guard, ↓KA_some, ↓KA_none, ↓CondK_true, ↓CondK_false, ↓GuardK_some, ↓GuardW_yes, ↓GuardW_tf, ↓GuardW_ft, ↓GuardW_undef, ↓dstAt_zero, ↓dstAt_succ, ↓AR_some, ↓AR_none, ↓AVK_some, ↓AVM_some, ↓AHK_some, CondK_true, CondK_false, GuardW_yes, GuardW_tf, GuardW_ft, GuardW_undef, Qfun_normal, Qfun_ret, Qloop_normal, Qloop_exit, Qloop_ret, AR_some, AR_none, AR_map, AR_mapH, AR_ite, AVK_some, AVK_none, AVK_map, AVK_ite, AVM_some, AVM_none, AHK_some, AHK_none, AHK_ite, aop, gs, List.length_set, evalOp, ofValue, ofCell, isConst, abin, aint, astrop, ashift, aun, acall1, abuiltin, alenOf, aresults, aresult, packed, List.nil_append, List.append_nil, List.map_cons, List.map_nil, List.getElem?_toArray, List.getElem?_cons_zero, List.getElem?_cons_succ, Option.bind_some, Option.map_some, Option.map_none, Nat.reduceEqDiff, Nat.reduceLT, Int.reduceLT, Int.reduceLE, Int.reduceGT, Int.reduceGE,  Nat.reduceAdd, Nat.reduceSub, ↓reduceIte, reduceCtorEq, Bool.false_eq_true, Bool.true_eq_false, Bool.not_true, Bool.not_false, true_and, and_true, false_and, and_false, not_true_eq_false, not_false_eq_true, forall_const, false_implies, true_implies, implies_true, decide_true, decide_false, or_self, false_or, or_false, true_or, or_true, hl, e0, Try.underlying28, bfa1, l1, asliceData, Int.natCast_zero, t0]
    exact fun k o hk _ => hk
  · have tn := textN hb0 hl' hk
    have hne : bs.length ≠ 0 := fun hh => hb0 (List.eq_nil_of_length_eq_zero hh)
    simp only [↓KP_nil, ↓KP_seq, ↓KP_seqE, ↓KP_seqR, ↓KP_block, ↓KP_blockE, ↓KP_blockR, ↓AW_skip, ↓AW_region, ↓AW_drawn, ↓AW_seq, ↓AW_cond, ↓AW_block, ↓AW_exit, ↓AW_scope, ↓AW_label, ↓AW_ret, ↓AW_loop, ↓AE_nil, ↓AE_step, ↓AE_guard, ↓KA_some, ↓KA_none, ↓CondK_true, ↓CondK_false, ↓GuardK_some, ↓GuardW_yes, ↓GuardW_tf, ↓GuardW_ft, ↓GuardW_undef, ↓dstAt_zero, ↓dstAt_succ, ↓AR_some, ↓AR_none, ↓AVK_some, ↓AVM_some, ↓AHK_some, CondK_true, CondK_false, GuardW_yes, GuardW_tf, GuardW_ft, GuardW_undef, Qfun_normal, Qfun_ret, Qloop_normal, Qloop_exit, Qloop_ret, AR_some, AR_none, AR_map, AR_mapH, AR_ite, AVK_some, AVK_none, AVK_map, AVK_ite, AVM_some, AVM_none, AHK_some, AHK_none, AHK_ite, aop, gs, List.length_set, evalOp, ofValue, ofCell, isConst, abin, aint, astrop, ashift, aun, acall1, abuiltin, alenOf, aresults, aresult, packed, List.nil_append, List.append_nil, List.map_cons, List.map_nil, List.getElem?_toArray, List.getElem?_cons_zero, List.getElem?_cons_succ, Option.bind_some, Option.map_some, Option.map_none, Nat.reduceEqDiff, Nat.reduceLT, Int.reduceLT, Int.reduceLE, Int.reduceGT, Int.reduceGE,  Nat.reduceAdd, Nat.reduceSub, ↓reduceIte, reduceCtorEq, Bool.false_eq_true, Bool.true_eq_false, Bool.not_true, Bool.not_false, true_and, and_true, false_and, and_false, not_true_eq_false, not_false_eq_true, forall_const, false_implies, true_implies, implies_true, decide_true, decide_false, or_self, false_or, or_false, true_or, or_true, hl, e0, Try.underlying28, bfa1, l1, asliceData, tn, hne, ne_eq]
    exact ⟨AH.set_n _ _ _, fun j o hj hnb => by
      rw [AH.get_set_ne (fun hh => hnb ⟨p, bs.length, by rw [hg, hh]⟩)]
      exact hj⟩


/-! ### Among a function's own blocks -/
variable {h h0 : AH} {X : List Nat} {L : List Ent} {K : PureK} {T : PTab}

theorem Sep.allocB (S : Sep h0 X h L) : ∃ i h1, anew 95 [.val (.pointer none), .val (.slice none 0 0)] h = (.ptr i 0, h1) ∧ Sep h0 X h1 (L ++ [.bld i (.val (.pointer none)) (.val (.slice none 0 0)) 95 5 []]) := by
  refine ⟨h.n, h.push (.cells _ true 0 (some (95, true))), rfl, S.add (.bld h.n _ _ _ _ []) (by rw [AH.push_n]; omega) (fun k o hg => by rw [AH.get_push_ne (by have := AH.get_lt hg; omega)]; exact hg) ⟨AH.get_push_new _ _, .inl rfl, .inl ⟨rfl, rfl⟩⟩ (fun k hk => ?_) (by simp [Ent.ids, idsOf])⟩
  simp [Ent.ids, idsOf] at hk; omega

def hb77 : List AV → Option AV
  | [x] => some x
  | _ => none
theorem hb_hook (hk : K 128 = some hb77) : hooksOf K 128 = some handsBack := by
  simp only [hooksOf, hk, Option.map_some, Option.some.injEq]
  funext args g
  unfold hb77 handsBack
  split
  · rfl
  · rename_i hne
    split
    · rename_i x; exact absurd rfl (hne x)
    · rfl
set_option maxRecDepth 100000 in
theorem hb_ok {B : Nat} : HookOK Try.prog B 128 (fun args h => (hb77 args).map fun v => (v, h)) := by
  have := HookOK.noEscape (B := B) Try.func128 (by kernel_rfl) (by kernel_rfl) (by kernel_rfl) rfl
  have e : (fun args h => (hb77 args).map fun v => (v, h)) = handsBack := by
    funext args g
    unfold hb77 handsBack
    split
    · rfl
    · rename_i hne
      split
      · rename_i x; exact absurd rfl (hne x)
      · rfl
  rw [e]; exact this

theorem Sep.bwrite (S : Sep h0 X h L) (k77 : K 128 = some hb77) (n69 : K 106 = none) (n50 : K 66 = none) (i : Nat) {id : Nat} {p v : AV} {bs r : List UInt8}
    (hi : L[i]? = some (.bld id p v 95 5 bs)) {l : List UInt8} (hr : app bs l = some r) (m : Nat) (hm : 3 ≤ m) :
    ∃ p' v' h1, acall Try.prog (hooksOf K) (drawnOf Try.prog T) m 66 [.ptr id 0, .str l] h = some (.tup [.int .i64 l.length, .val .nilIface], h1) ∧ Sep h0 X h1 (L.set i (.bld id p' v' 95 5 r)) := by
  obtain ⟨m, rfl⟩ : ∃ k, m = k + 1 := ⟨m - 1, by omega⟩
  unfold app at hr
  split at hr
  rotate_left
  · cases hr
  rename_i hlen
  cases hr
  have ok := S.ok _ (List.mem_of_getElem? hi)
  obtain ⟨h1, h2, h3⟩ := ok
  have hb : Bld 95 [] [] h id bs := ⟨p, v, h1, h2, h3⟩
  obtain ⟨v1, g, hc, rfl, ⟨p', v', hg, hp', hbs⟩, hbuf, hn, hfr⟩ := (WriteString_run (D := drawnOf Try.prog T) (t := 95) (pre := []) (post := []) blies (hooksOf_none n69) (hb_hook k77) (hooksOf_none n50) m (by omega) hb l (by unfold capL at hlen; omega)).out
  have hv' : idsOf v' = [] ∨ ∃ k q, v' = .sl k 0 q 1 ∧ k ≠ id := by
    rcases hbs with ⟨_, rfl⟩ | ⟨k, _, rfl, hk⟩
    · exact .inl rfl
    · exact .inr ⟨k, _, rfl, fun hh => by subst hh; rw [hg] at hk; exact bobj_ne hk⟩
  refine ⟨p', v', g, hc, S.upd i hi (.bld id p' v' _ _ _) hn (fun k o hk hgk => hfr k o hgk (fun hh => hk (by simp [Ent.ids, hh])) (fun ⟨p2, n2, h4⟩ => hk ?_)) ⟨hg, hp', hbs⟩ (fun k hk => ?_) ?_⟩
  · rw [h1] at h4
    rw [bobj_inj (t := 95) (pre := []) (post := []) h4]; simp [Ent.ids, idsOf]
  · simp only [Ent.ids, List.mem_cons] at hk ⊢
    rcases hk with rfl | hk
    · exact .inl (.inl rfl)
    · rcases hv' with h5 | ⟨k', q, rfl, hne⟩
      · rw [h5] at hk; cases hk
      · simp [idsOf] at hk
        subst hk
        rcases hbuf k ⟨p', q, hg⟩ with ⟨p2, n2, h4⟩ | h4
        · rw [h1] at h4
          rw [bobj_inj (t := 95) (pre := []) (post := []) h4]; simp [idsOf]
        · exact .inr h4
  · rcases hv' with h5 | ⟨k', q, rfl, hne⟩
    · simp [Ent.ids, h5]
    · simp [Ent.ids, idsOf]; exact fun hh => hne hh.symm

theorem Sep.blen (S : Sep h0 X h L) (n51 : K 105 = none) (i : Nat) {id : Nat} {p v : AV} {bs : List UInt8} (hi : L[i]? = some (.bld id p v 95 5 bs)) (m : Nat) (hm : 3 ≤ m) :
    acall Try.prog (hooksOf K) (drawnOf Try.prog T) m 105 [.ptr id 0] h = some (.int .i64 bs.length, h) := by
  obtain ⟨m, rfl⟩ : ∃ k, m = k + 1 := ⟨m - 1, by omega⟩
  obtain ⟨h1, h2, h3⟩ := S.ok _ (List.mem_of_getElem? hi)
  obtain ⟨v1, g, hc, rfl, rfl⟩ := (Len_run (t := 95) (pre := []) (post := []) (Γ := hooksOf K) (D := drawnOf Try.prog T) (hooksOf_none n51) m ⟨p, v, h1, h2, h3⟩).out
  exact hc

theorem Sep.bstring (S : Sep h0 X h L) (n52 : K 67 = none) (i : Nat) {id : Nat} {p v : AV} {bs : List UInt8} (hi : L[i]? = some (.bld id p v 95 5 bs)) (hl : bs.length ≤ capL) (m : Nat) (hm : 3 ≤ m) :
    ∃ h1, acall Try.prog (hooksOf K) (drawnOf Try.prog T) m 67 [.ptr id 0] h = some (.str bs, h1) ∧ Sep h0 X h1 (L.eraseIdx i) := by
  obtain ⟨m, rfl⟩ : ∃ k, m = k + 1 := ⟨m - 1, by omega⟩
  obtain ⟨h1, h2, h3⟩ := S.ok _ (List.mem_of_getElem? hi)
  obtain ⟨v1, g, hc, rfl, hn, hfr⟩ := (String_run (t := 95) (pre := []) (post := []) (Γ := hooksOf K) (T := T) (hooksOf_none n52) m ⟨p, v, h1, h2, h3⟩ (by unfold capL at hl; omega)).out
  have he := List.mem_of_getElem? hi
  have hnb : ∀ k, bufOf 95 [] [] h id k → k ∈ (Ent.bld id p v 95 5 bs).ids := fun k ⟨p2, n2, h4⟩ => by
    rw [h1] at h4
    rw [bobj_inj (t := 95) (pre := []) (post := []) h4]; simp [Ent.ids, idsOf]
  refine ⟨g, hc, ⟨by rw [hn]; exact S.n, fun k o hk hg => hfr k o (S.old k o hk hg) (fun hb => ?_), fun x hx => ?_, fun x hx k hk => S.own x ((List.eraseIdx_sublist ..).subset hx) k hk, (S.sub (List.eraseIdx_sublist (l := L) i)).nd⟩⟩
  · rcases S.own _ he k (hnb k hb) with h4 | h4
    · exact hk h4
    · have := AH.get_lt hg; omega
  · obtain ⟨j, hj⟩ := List.mem_iff_getElem?.1 hx
    have hj' : ∃ j', L[j']? = some x ∧ j' ≠ i := by
      rw [List.getElem?_eraseIdx] at hj
      split at hj
      · exact ⟨j, hj, by omega⟩
      · exact ⟨j + 1, hj, by omega⟩
    obtain ⟨j', hj1, hj2⟩ := hj'
    exact Ent.ok_keep (S.ok x (List.mem_of_getElem? hj1)) fun k hk o hg => hfr k o hg fun hb => nodup_other S.nd hi j' x hj1 hj2 k hk (hnb k hb)
end Go.Proofs.YtobhmahlenjheaaM
