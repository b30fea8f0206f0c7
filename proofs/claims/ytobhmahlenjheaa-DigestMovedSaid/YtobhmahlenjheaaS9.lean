/- A builder's append of one byte. -/
import Derived.Test.YtobhmahlenjheaaS8
import Derived.Test.YtobhmahlenjheaaPB
set_option linter.unusedSimpArgs false
set_option linter.unusedVariables false
namespace Go.Proofs.YtobhmahlenjheaaM
open Go Go.RowKit

section
variable {P : Program} {g : AH}
theorem appendB {t e : TypeId} (b : ByteTy P t e) {v : AV} {bs : List UInt8} (hv : BS e v g bs) (x : UInt8) (q : Nat) (hq : acells (.sl q 0 1 1) 1 1 g = some [cellB x]) (hl : bs.length + 1 < 100000000000) :
    ∃ v' h', aappend P #[t, t] [v, .sl q 0 1 1] g = some (v', h') ∧ BS e v' h' (bs ++ [x]) ∧ v'.cells = some [v'] ∧ v'.one = true ∧ (∀ k n, v' = .sl k 0 n 1 → (∃ m, v = .sl k 0 m 1) ∨ g.n ≤ k) ∧ g.n ≤ h'.n ∧ ∀ k o, g.get k = some o → (∀ n, v ≠ .sl k 0 n 1) → h'.get k = some o := by
  obtain ⟨i, z, hi, h1, h2, hz, hz1, hz2⟩ := b.info
  have e1 : sliceElem P t = some e := by simp [sliceElem, b.ht]
  have e4 : (P.underlying t).map notInt = some true := by simp [b.ht, notInt]
  have room : ∀ k, k ≤ 100000000001 → aroom i k = true := fun k hk => by
    simp [aroom, h1, h2, hz, hz1, sizeCap]
    omega
  rcases hv with ⟨rfl, rfl⟩ | ⟨id, hb0, rfl, hg⟩
  · refine ⟨.sl g.n 0 1 1, g.push (.cells [cellB x] true 0 (some (e, false))), ?_, .inr ⟨g.n, by simp, rfl, by simpa using AH.get_push_new g _⟩, rfl, rfl, fun k n hh => .inr (by cases hh; omega), by rw [AH.push_n]; omega, fun k o hk _ => by rw [AH.get_push_ne (by have := AH.get_lt hk; omega)]; exact hk⟩
    simp only [aappend, List.getElem?_toArray, List.getElem?_cons_zero, List.getElem?_cons_succ, e1, e4, hi, alen, h1, room (0 + 1) (by omega), hq, aappendAt]
    rfl
  · refine ⟨.sl g.n 0 (bs.length + 1) 1, (g.set id .dead).push (.cells (((bs.map cellB).drop 0).take (bs.length * 1) ++ [cellB x]) true (0 - 0) (tyApp e (some (e, false)))), ?_, .inr ⟨g.n, by simp, by simp, ?_⟩, rfl, rfl, fun k n hh => .inr (by cases hh; omega), by rw [AH.push_n, AH.set_n]; omega, fun k o hk hne => ?_⟩
    · simp only [aappend, List.getElem?_toArray, List.getElem?_cons_zero, List.getElem?_cons_succ, e1, e4, hi, alen, h1, room (bs.length + 1) (by omega), hq, aappendAt, hg]
      rw [if_neg (by omega), if_pos ⟨trivial, by simp, by omega, by simp [AV.one, cellB]⟩]
    · have := AH.get_push_new (g.set id .dead) (.cells (((bs.map cellB).drop 0).take (bs.length * 1) ++ [cellB x]) true (0 - 0) (tyApp e (some (e, false))))
      rw [AH.set_n] at this
      rw [this]
      simp only [Nat.mul_one, List.drop_zero, take_cells, List.map_append, tyApp, if_true, List.map_cons, List.map_nil]
    · have hki : k ≠ id := fun hh => by subst hh; exact hne _ rfl
      rw [AH.get_push_ne (by have := AH.get_lt hk; rw [AH.set_n]; omega), AH.get_set_ne hki]
      exact hk
end
/-- A number that is a byte. -/
def byteOf (c : Int) : Option UInt8 := if 0 ≤ c ∧ c < 256 then some (byt c) else none
theorem byteOf_cell {c : Int} {x : UInt8} (h : byteOf c = some x) : AV.int .u8 c = cellB x := by
  unfold byteOf at h
  split at h
  · cases h; unfold cellB byt; simp only [AV.int.injEq, true_and, UInt8.toNat_ofNat']; omega
  · cases h
variable {Γ : Hooks} {D : Drawn}
set_option maxRecDepth 100000 in
set_option maxHeartbeats 1000000 in
theorem WriteByte_run {t : TypeId} {pre post : List AV} (hlies : BLies t pre.length post.length) (h69 : Γ 106 = none) (h77 : Γ 128 = some handsBack) (hWB : Γ 68 = none) (n : Nat) (hn : 2 ≤ n) {h : AH} {id : Nat} {bs : List UInt8} (hb : Bld t pre post h id bs) (x : UInt8) (hl' : bs.length + 1 < 100000000000) :
    AR (acall Try.prog Γ D (n + 1) 68 [.ptr id pre.length, cellB x] h) fun r h' => r = .val .nilIface ∧ Bld t pre post h' id (bs ++ [x]) ∧ (∀ k, bufOf t pre post h' id k → bufOf t pre post h id k ∨ h.n ≤ k) ∧ h.n ≤ h'.n ∧ ∀ k o, h.get k = some o → k ≠ id → ¬ bufOf t pre post h id k → h'.get k = some o := by
  obtain ⟨p, v, hg, hp, hbs⟩ := hb
  refine AR_call hWB Try.func68 rfl _ _ fun env hl he => ?_
  have e0 := he 0; have e1 := he 1
  simp only [List.getD_cons_zero, List.getD_cons_succ] at e0 e1
  simp only [Try.f68] at hl ⊢
  simp only [List.length_cons, List.length_nil, Nat.reduceAdd, Nat.reduceSub] at hl
  obtain ⟨r1, h1, hc, rfl⟩ := (copyCheck_run (D := D) hg hlies h69 h77 (n - 1) hp).out
  rw [show n - 1 + 1 = n by omega] at hc
  have hg1 : (h.set id (bobj t pre post (.ptr id pre.length) v)).get id = some (bobj t pre post (.ptr id pre.length) v) := AH.get_set_same hg
  have hbs1 : BS 5 v (h.set id (bobj t pre post (.ptr id pre.length) v)) bs := by
    rcases hbs with hh | ⟨k, hb0, rfl, hk⟩
    · exact .inl hh
    · refine .inr ⟨k, hb0, rfl, ?_⟩
      have hne : k ≠ id := fun hh => by rw [hh, hg] at hk; exact bobj_ne hk
      rw [AH.get_set_ne hne]; exact hk
  have hb1 := build1 bt70 (x.toNat : Int) (h.set id (bobj t pre post (.ptr id pre.length) v))
  have hbs1p : BS 5 v ((h.set id (bobj t pre post (.ptr id pre.length) v)).push (.cells [.int .u8 x.toNat] true 0 (some (5, false)))) bs := by
    rcases hbs1 with hh | ⟨k, hb0, rfl, hk⟩
    · exact .inl hh
    · exact .inr ⟨k, hb0, rfl, by rw [AH.get_push_ne (by have := AH.get_lt hk; omega)]; exact hk⟩
  obtain ⟨v', h2, hap, hbs2, hc2, ho2, hnew, hn2, hfr0⟩ := appendB bt70 hbs1p x (h.set id (bobj t pre post (.ptr id pre.length) v)).n (by simp [acells, AH.get_push_new, cellB]) hl'
  have hfr : ∀ k o, (h.set id (bobj t pre post (.ptr id pre.length) v)).get k = some o → (∀ n, v ≠ .sl k 0 n 1) → h2.get k = some o := fun k o hk hv => hfr0 k o (by rw [AH.get_push_ne (by have := AH.get_lt hk; omega)]; exact hk) hv
  rw [AH.push_n] at hn2
  have hv1 : ∀ m, v ≠ .sl id 0 m 1 := fun m hh => by
    subst hh
    rcases hbs with ⟨_, hh⟩ | ⟨k, _, hh, hk⟩
    · cases hh
    · cases hh; rw [hg] at hk; exact bobj_ne hk
  have hg2 := hfr id _ hg1 hv1
  have l1 := bload1 hg1
  have s1 := bstore1 hg2 v' hc2 ho2
  simp only [cellB] at e1 hap
  simp only [↓KP_nil, ↓KP_seq, ↓KP_seqE, ↓KP_seqR, ↓KP_block, ↓KP_blockE, ↓KP_blockR, ↓AW_skip, ↓AW_region, ↓AW_drawn, ↓AW_seq, ↓AW_cond, ↓AW_block, ↓AW_exit, ↓AW_scope, ↓AW_label, ↓AW_ret, ↓AW_loop, ↓AE_nil, ↓AE_step, ↓AE_guard, ↓KA_some, ↓KA_none, ↓CondK_true, ↓CondK_false, ↓GuardK_some, ↓GuardW_yes, ↓GuardW_tf, ↓GuardW_ft, ↓GuardW_undef, ↓dstAt_zero, ↓dstAt_succ, ↓AR_some, ↓AR_none, ↓AVK_some, ↓AVM_some, ↓AHK_some, CondK_true, CondK_false, GuardW_yes, GuardW_tf, GuardW_ft, GuardW_undef, Qfun_normal, Qfun_ret, Qloop_normal, Qloop_exit, Qloop_ret, AR_some, AR_none, AR_map, AR_mapH, AR_ite, AVK_some, AVK_none, AVK_map, AVK_ite, AVM_some, AVM_none, AHK_some, AHK_none, AHK_ite, aop, gs, List.length_set, evalOp, ofValue, ofCell, isConst, abin, aint, astrop, ashift, aun, acall1, abuiltin, alenOf, aresults, aresult, packed, List.nil_append, List.append_nil, List.map_cons, List.map_nil, List.getElem?_toArray, List.getElem?_cons_zero, List.getElem?_cons_succ, Option.bind_some, Option.map_some, Option.map_none, Nat.reduceEqDiff, Nat.reduceLT, Int.reduceLT, Int.reduceLE, Int.reduceGT, Int.reduceGE,  Nat.reduceAdd, Nat.reduceSub, ↓reduceIte, reduceCtorEq, Bool.false_eq_true, Bool.true_eq_false, Bool.not_true, Bool.not_false, true_and, and_true, false_and, and_false, not_true_eq_false, not_false_eq_true, forall_const, false_implies, true_implies, implies_true, decide_true, decide_false, or_self, false_or, or_false, true_or, or_true, hl, e0, e1, hc, bfa1, l1, hb1, hap, s1]
  have hv2 : ∀ m, v' ≠ .sl id 0 m 1 := fun m hh => by
    subst hh
    rcases hbs2 with ⟨_, hh⟩ | ⟨k, _, hh, hk⟩
    · cases hh
    · cases hh; rw [hg2] at hk; exact bobj_ne hk
  have hbuf : ∀ k, bufOf t pre post (h2.set id (bobj t pre post (.ptr id pre.length) v')) id k → bufOf t pre post h id k ∨ h.n ≤ k := by
    rintro k ⟨p', m, hk⟩
    rw [AH.get_set_same hg2] at hk
    have hk2 := bobj_inj hk
    rcases hnew k m hk2 with ⟨m', hm⟩ | hm
    · exact .inl ⟨p, m', by rw [hg, hm]⟩
    · rw [AH.push_n, AH.set_n] at hm; exact .inr (by omega)
  refine ⟨⟨.ptr id pre.length, v', AH.get_set_same hg2, .inr rfl, ?_⟩, hbuf, by rw [AH.set_n]; rw [AH.set_n] at hn2; omega, fun k o hk hne hnb => ?_⟩
  · rcases hbs2 with hh | ⟨k, hb0, rfl, hk⟩
    · exact .inl hh
    · refine .inr ⟨k, hb0, rfl, ?_⟩
      rw [AH.get_set_ne (fun hh => hv2 _ (by rw [hh]))]; exact hk
  · rw [AH.get_set_ne hne]
    refine hfr k o (by rw [AH.get_set_ne hne]; exact hk) fun m hh => hnb ⟨p, m, by rw [hg, hh]⟩


variable {h h0 : AH} {X : List Nat} {L R : List Ent} {K : PureK} {T : PTab} {t : TypeId} {pre post : List AV}
theorem Sep.bbyte (S : Sep h0 X h L) (k77 : K 128 = some hb77) (n69 : K 106 = none) (n50 : K 68 = none) (i : Nat) {id : Nat} {p v : AV} {bs r : List UInt8}
    (hi : L[i]? = some (.bld id p v 95 5 bs)) {c : Int} {x : UInt8} (hc : byteOf c = some x) (hr : app bs [x] = some r) (m : Nat) (hm : 3 ≤ m) :
    ∃ p' v' h1, acall Try.prog (hooksOf K) (drawnOf Try.prog T) m 68 [.ptr id 0, .int .u8 c] h = some (.val .nilIface, h1) ∧ Sep h0 X h1 (L.set i (.bld id p' v' 95 5 r)) := by
  obtain ⟨m, rfl⟩ : ∃ k, m = k + 1 := ⟨m - 1, by omega⟩
  rw [byteOf_cell hc]
  clear hc
  unfold app at hr
  split at hr
  rotate_left
  · cases hr
  rename_i hlen
  cases hr
  have ok := S.ok _ (List.mem_of_getElem? hi)
  obtain ⟨h1, h2, h3⟩ := ok
  have hb : Bld 95 [] [] h id bs := ⟨p, v, h1, h2, h3⟩
  obtain ⟨v1, g, hc, rfl, ⟨p', v', hg, hp', hbs⟩, hbuf, hn, hfr⟩ := (WriteByte_run (D := drawnOf Try.prog T) (t := 95) (pre := []) (post := []) blies (hooksOf_none n69) (hb_hook k77) (hooksOf_none n50) m (by omega) hb x (by unfold capL at hlen; simp at hlen; omega)).out
  have hv' : idsOf v' = [] ∨ ∃ k q, v' = .sl k 0 q 1 ∧ k ≠ id := by
    rcases hbs with ⟨_, rfl⟩ | ⟨k, _, rfl, hk⟩
    · exact .inl rfl
    · exact .inr ⟨k, _, rfl, fun hh => by subst hh; rw [hg] at hk; exact bobj_ne hk⟩
  refine ⟨p', v', g, hc, S.upd i hi (.bld id p' v' _ _ _) hn (fun k o hk hgk => hfr k o hgk (fun hh => hk (by simp [Ent.ids, hh])) (fun ⟨p2, n2, h4⟩ => hk ?_)) ⟨hg, hp', hbs⟩ (fun k hk => ?_) ?_⟩
  · rw [h1] at h4
    rw [bobj_inj (t := 95) (pre := []) (post := []) h4]; simp [Ent.ids, idsOf]
  · simp only [Ent.ids, List.mem_cons] at hk ⊢
    rcases hk with rfl | hk
    · exact .inl (.inl rfl)
    · rcases hv' with h5 | ⟨k', q, rfl, hne⟩
      · rw [h5] at hk; cases hk
      · simp [idsOf] at hk
        subst hk
        rcases hbuf k ⟨p', q, hg⟩ with ⟨p2, n2, h4⟩ | h4
        · rw [h1] at h4
          rw [bobj_inj (t := 95) (pre := []) (post := []) h4]; simp [idsOf]
        · exact .inr h4
  · rcases hv' with h5 | ⟨k', q, rfl, hne⟩
    · simp [Ent.ids, h5]
    · simp [Ent.ids, idsOf]; exact fun hh => hne hh.symm

theorem Sep.sbyte {id : Nat} {p v : AV} {bs : List UInt8} (S : Sep h0 X h (R ++ [.blk id (pre ++ p :: v :: post) t, .buf id pre.length p v 5 bs])) (hlies : BLies t pre.length post.length)
    (k77 : K 128 = some hb77) (n69 : K 106 = none) (n50 : K 68 = none) {r : List UInt8} {c : Int} {x : UInt8} (hc : byteOf c = some x) (hr : app bs [x] = some r) (m : Nat) (hm : 3 ≤ m) :
    ∃ p' v' h1, acall Try.prog (hooksOf K) (drawnOf Try.prog T) m 68 [.ptr id pre.length, .int .u8 c] h = some (.val .nilIface, h1) ∧
      Sep h0 X h1 (R ++ [.blk id (pre ++ p' :: v' :: post) t, .buf id pre.length p' v' 5 r]) := by
  obtain ⟨m, rfl⟩ : ∃ k, m = k + 1 := ⟨m - 1, by omega⟩
  rw [byteOf_cell hc]
  clear hc
  unfold app at hr
  split at hr
  rotate_left
  · cases hr
  rename_i hlen
  cases hr
  obtain ⟨hb, h1⟩ := lent_bld S
  obtain ⟨v1, g, hc, rfl, ⟨p', v', hg, hp', hbs⟩, hbuf, hn, hfr⟩ := (WriteByte_run (D := drawnOf Try.prog T) (t := t) (pre := pre) (post := post) hlies (hooksOf_none n69) (hb_hook k77) (hooksOf_none n50) m (by omega) hb x (by unfold capL at hlen; simp at hlen; omega)).out
  have hv' : idsOf v' = [] ∨ ∃ k q, v' = .sl k 0 q 1 ∧ k ≠ id := by
    rcases hbs with ⟨_, rfl⟩ | ⟨k, _, rfl, hk⟩
    · exact .inl rfl
    · exact .inr ⟨k, _, rfl, fun hh => by subst hh; rw [hg] at hk; exact bobj_ne hk⟩
  have hin : ∀ k, bufOf t pre post h id k → k ∈ idsOf v := fun k ⟨p2, n2, h4⟩ => by
    rw [h1] at h4
    rw [bobj_inj h4]; simp [idsOf]
  refine ⟨p', v', g, hc, S.callN ⟨hn, fun k o hk hgk => hfr k o hgk (fun hh => hk (by simp [Ent.ids, hh])) (fun hb => hk ?_), fun e he => ?_, fun e he k hk => ?_, ?_⟩⟩
  · simp only [List.flatMap_cons, List.mem_append, Ent.ids]
    exact .inr (.inl (hin k hb))
  · rcases List.mem_cons.1 he with rfl | he
    · exact hg
    · rw [List.mem_singleton.1 he]; exact ⟨hp', hbs⟩
  · rcases List.mem_cons.1 he with rfl | he
    · left; simp only [Ent.ids, List.mem_singleton] at hk; subst hk; simp [Ent.ids]
    · rw [List.mem_singleton.1 he] at hk
      rcases hv' with h5 | ⟨k', q, rfl, hne⟩
      · simp only [Ent.ids] at hk; rw [h5] at hk; cases hk
      · simp [Ent.ids, idsOf] at hk
        subst hk
        rcases hbuf k ⟨p', q, hg⟩ with h4 | h4
        · left; simp only [List.flatMap_cons, List.mem_append, Ent.ids]; exact .inr (.inl (hin k h4))
        · exact .inr h4
  · rcases hv' with h5 | ⟨k', q, rfl, hne⟩
    · simp [Ent.ids, h5]
    · simp [Ent.ids, idsOf]; exact fun hh => hne hh.symm

end Go.Proofs.YtobhmahlenjheaaM
