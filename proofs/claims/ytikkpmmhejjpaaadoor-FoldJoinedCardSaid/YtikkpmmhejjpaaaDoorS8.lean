/- A text's builder: a letter written. -/
import Derived.Test.YtikkpmmhejjpaaaDoorS7
set_option linter.unusedSimpArgs false
set_option linter.unusedVariables false
namespace Go.Proofs.YtikkpmmhejjpaaaDoorM
open Go Go.RowKit
variable {Γ : Hooks} {D : Drawn}

set_option maxRecDepth 100000 in
set_option maxHeartbeats 1000000 in
theorem WriteRune_run {t : TypeId} {pre post : List AV} (hlies : BLies t pre.length post.length) (h69 : Γ 22 = none) (h77 : Γ 25 = some handsBack) (hWR : Γ 14 = none) (n : Nat) (hn : 2 ≤ n) {h : AH} {id : Nat} {bs : List UInt8} (hb : Bld t pre post h id bs) (c : Int) (rs : List UInt8) (hl' : bs.length + rs.length < 100000000000)
    (hA : ∀ (v : AV) (h1 : AH), BS 5 v h1 bs → ∃ w h2, acall Tryd.prog Γ D n 23 [v, .int .i32 c] h1 = some (w, h2) ∧ BS 5 w h2 (bs ++ rs) ∧ (∀ k ∈ idsOf w, k ∈ idsOf v ∨ h1.n ≤ k) ∧ h1.n ≤ h2.n ∧ ∀ k o, h1.get k = some o → k ∉ idsOf v → h2.get k = some o) :
    AR (acall Tryd.prog Γ D (n + 1) 14 [.ptr id pre.length, .int .i32 c] h) fun r h' => r = .tup [.int .i64 rs.length, .val .nilIface] ∧ Bld t pre post h' id (bs ++ rs) ∧ (∀ k, bufOf t pre post h' id k → bufOf t pre post h id k ∨ h.n ≤ k) ∧ h.n ≤ h'.n ∧ ∀ k o, h.get k = some o → k ≠ id → ¬ bufOf t pre post h id k → h'.get k = some o := by
  obtain ⟨p, v, hg, hp, hbs⟩ := hb
  refine AR_call hWR Tryd.func14 rfl _ _ fun env hl he => ?_
  have e0 := he 0; have e1 := he 1
  simp only [List.getD_cons_zero, List.getD_cons_succ] at e0 e1
  simp only [Tryd.f14] at hl ⊢
  simp only [List.length_cons, List.length_nil, Nat.reduceAdd, Nat.reduceSub] at hl
  obtain ⟨r1, h1, hc, rfl⟩ := (copyCheck_run (D := D) hg hlies h69 h77 (n - 1) hp).out
  rw [show n - 1 + 1 = n by omega] at hc
  have hg1 : (h.set id (bobj t pre post (.ptr id pre.length) v)).get id = some (bobj t pre post (.ptr id pre.length) v) := AH.get_set_same hg
  have hbs1 : BS 5 v (h.set id (bobj t pre post (.ptr id pre.length) v)) bs := by
    rcases hbs with hh | ⟨k, hb0, rfl, hk⟩
    · exact .inl hh
    · refine .inr ⟨k, hb0, rfl, ?_⟩
      have hne : k ≠ id := fun hh => by rw [hh, hg] at hk; exact bobj_ne hk
      rw [AH.get_set_ne hne]; exact hk
  obtain ⟨w, h2, hap, hbs2, hnew, hn2, hfr⟩ := hA v _ hbs1
  have hvid : id ∉ idsOf v := fun hh => by
    rcases hbs with ⟨_, rfl⟩ | ⟨k, _, rfl, hk⟩
    · cases hh
    · simp [idsOf] at hh; subst hh; rw [hg] at hk; exact bobj_ne hk
  have hg2 := hfr id _ hg1 hvid
  have len_of : ∀ {x : AV} {g : AH} {l : List UInt8}, BS 5 x g l → alenOf Tryd.prog 32 x g = some (.int .i64 l.length) := fun {x g l} hx => by
    rcases hx with ⟨rfl, rfl⟩ | ⟨k, _, rfl, hk⟩
    · simp [alenOf, Tryd.underlying32]
    · simp [alenOf, Tryd.underlying32]
  have cells_of : w.cells = some [w] ∧ w.one = true := by
    rcases hbs2 with ⟨_, rfl⟩ | ⟨k, _, rfl, hk⟩ <;> exact ⟨rfl, rfl⟩
  have l1 := bload1 hg1
  have n1 := len_of hbs1
  have s1 := bstore1 hg2 w cells_of.1 cells_of.2
  have hg3 : (h2.set id (bobj t pre post (.ptr id pre.length) w)).get id = some (bobj t pre post (.ptr id pre.length) w) := AH.get_set_same hg2
  have hwid : id ∉ idsOf w := fun hh => by
    rcases hnew id hh with h3 | h3
    · exact hvid h3
    · have := AH.get_lt hg1; omega
  have hbs3 : BS 5 w (h2.set id (bobj t pre post (.ptr id pre.length) w)) (bs ++ rs) := by
    rcases hbs2 with hh | ⟨k, hb0, rfl, hk⟩
    · exact .inl hh
    · refine .inr ⟨k, hb0, rfl, ?_⟩
      rw [AH.get_set_ne (fun hh => hwid (by subst hh; simp [idsOf]))]; exact hk
  have l2 := bload1 hg3
  have n2 := len_of hbs3
  have ws : IntKind.i64.wrap (((bs ++ rs).length : Int) - (bs.length : Int)) = (rs.length : Int) := by rw [List.length_append, wrap_i64 (by omega) (by omega)]; omega
  simp only [↓KP_nil, ↓KP_seq, ↓KP_seqE, ↓KP_seqR, ↓KP_block, ↓KP_blockE, ↓KP_blockR, ↓AW_skip, ↓AW_region, ↓AW_drawn, ↓AW_seq, ↓AW_cond, ↓AW_block, ↓AW_exit, ↓AW_scope, ↓AW_label, ↓AW_ret, ↓AW_loop, ↓AE_nil, ↓AE_step, ↓AE_guard, ↓KA_some, ↓KA_none, ↓CondK_true, ↓CondK_false, ↓GuardK_some, ↓GuardW_yes, ↓GuardW_tf, ↓GuardW_ft, ↓GuardW_undef, ↓dstAt_zero, ↓dstAt_succ, ↓AR_some, ↓AR_none, ↓AVK_some, ↓AVM_some, ↓AHK_some, CondK_true, CondK_false, GuardW_yes, GuardW_tf, GuardW_ft, GuardW_undef, Qfun_normal, Qfun_ret, Qloop_normal, Qloop_exit, Qloop_ret, AR_some, AR_none, AR_map, AR_mapH, AR_ite, AVK_some, AVK_none, AVK_map, AVK_ite, AVM_some, AVM_none, AHK_some, AHK_none, AHK_ite, aop, gs, List.length_set, evalOp, ofValue, ofCell, isConst, abin, aint, astrop, ashift, aun, acall1, abuiltin, aresults, aresult, packed, List.nil_append, List.append_nil, List.map_cons, List.map_nil, List.getElem?_toArray, List.getElem?_cons_zero, List.getElem?_cons_succ, Option.bind_some, Option.map_some, Option.map_none, Nat.reduceEqDiff, Nat.reduceLT, Int.reduceLT, Int.reduceLE, Int.reduceGT, Int.reduceGE,  Nat.reduceAdd, Nat.reduceSub, ↓reduceIte, reduceCtorEq, Bool.false_eq_true, Bool.true_eq_false, Bool.not_true, Bool.not_false, true_and, and_true, false_and, and_false, not_true_eq_false, not_false_eq_true, forall_const, false_implies, true_implies, implies_true, decide_true, decide_false, or_self, false_or, or_false, true_or, or_true, hl, e0, e1, hc, bfa1, l1, n1, hap, s1, l2, n2, ws]
  refine ⟨⟨.ptr id pre.length, w, hg3, .inr rfl, hbs3⟩, ?_, by rw [AH.set_n]; rw [AH.set_n] at hn2; exact hn2, fun k o hk hne hnb => ?_⟩
  · rintro k ⟨p', m, hk⟩
    rw [hg3] at hk
    have hk2 := bobj_inj hk
    subst hk2
    rcases hnew k (by simp [idsOf]) with h3 | h3
    · left
      rcases hbs with ⟨_, rfl⟩ | ⟨k', _, rfl, hk'⟩
      · cases h3
      · simp [idsOf] at h3; subst h3; exact ⟨p, _, hg⟩
    · right; rw [AH.set_n] at h3; exact h3
  · rw [AH.get_set_ne hne]
    refine hfr k o (by rw [AH.get_set_ne hne]; exact hk) fun hh => hnb ?_
    rcases hbs with ⟨_, rfl⟩ | ⟨k', _, rfl, hk'⟩
    · cases hh
    · simp [idsOf] at hh; subst hh; exact ⟨p, _, hg⟩

/-- The bytes that a letter's append leaves, if they are some more than were. -/
def runeOf (bs : List UInt8) (zs : List Int) : Option (List UInt8) :=
  if (∀ z ∈ zs, 0 ≤ z ∧ z < 256) ∧ bs.length < zs.length ∧ (zs.map byt).take bs.length = bs ∧ zs.length ≤ capL then some (zs.map byt) else none
theorem cellI_byt {zs : List Int} (h : ∀ z ∈ zs, 0 ≤ z ∧ z < 256) : (zs.map (cellI .u8)).flatten = (zs.map byt).map cellB := by
  induction zs with
  | nil => rfl
  | cons z zs ih =>
    have h1 := h z (List.mem_cons_self ..)
    have h2 := ih fun y hy => h y (List.mem_cons_of_mem _ hy)
    simp only [List.map_cons, List.flatten_cons, h2, cellI, cellB, List.cons_append, List.nil_append, List.cons.injEq, and_true, AV.int.injEq, true_and]
    unfold byt
    simp only [UInt8.toNat_ofNat']
    omega
theorem cellI_nat (bs : List UInt8) : ((bs.map fun b => (b.toNat : Int)).map (cellI .u8)).flatten = bs.map cellB := by
  induction bs with
  | nil => rfl
  | cons b bs ih => simp only [List.map_cons, List.flatten_cons, ih, cellI, cellB, List.cons_append, List.nil_append]

variable {h h0 : AH} {X : List Nat} {L : List Ent} {K : PureK} {T : PTab}
theorem Sep.brune (S : Sep h0 X h L) (k77 : K 25 = some hb77) (n69 : K 22 = none) (nWR : K 14 = none) (i : Nat) {id : Nat} {p v : AV} {bs r : List UInt8} {c : Int} {zs : List Int}
    (hi : L[i]? = some (.bld id p v 34 5 bs)) (hr : runeOf bs zs = some r) (m : Nat) (hm : 4 ≤ m)
    (hW : ∀ (g : AH) (u : AV) (hok : ∀ e ∈ ([.row u 5 1 ((bs.map fun b => (b.toNat : Int)).map (cellI .u8))] : List Ent), e.ok g) (hnd : (([.row u 5 1 ((bs.map fun b => (b.toNat : Int)).map (cellI .u8))] : List Ent).flatMap Ent.ids).Nodup),
      AR (acall Tryd.prog (hooksOf K) (drawnOf Tryd.prog T) (m - 1) 23 [u, .int .i32 c] g) (fun v h' => ∃ w : AV, v = w ∧ Sep g (([.row u 5 1 ((bs.map fun b => (b.toNat : Int)).map (cellI .u8))] : List Ent).flatMap Ent.ids) h' [.row w 5 1 (zs.map (cellI .u8))])) :
    ∃ p' v' h1, acall Tryd.prog (hooksOf K) (drawnOf Tryd.prog T) m 14 [.ptr id 0, .int .i32 c] h = some (.tup [.int .i64 ((r.length : Int) - (bs.length : Int)), .val .nilIface], h1) ∧ Sep h0 X h1 (L.set i (.bld id p' v' 34 5 r)) := by
  obtain ⟨m, rfl⟩ : ∃ k, m = k + 1 := ⟨m - 1, by omega⟩
  rw [Nat.add_sub_cancel] at hW
  unfold runeOf at hr
  split at hr
  rotate_left
  · cases hr
  rename_i hc
  obtain ⟨hc1, hc2, hc3, hc4⟩ := hc
  cases hr
  have hsplit : bs ++ (zs.map byt).drop bs.length = zs.map byt := by
    have := List.take_append_drop bs.length (zs.map byt)
    rw [hc3] at this; exact this
  have hzl : (zs.map byt).length = zs.length := List.length_map ..
  have ok := S.ok _ (List.mem_of_getElem? hi)
  obtain ⟨h1, h2, h3⟩ := ok
  have hb : Bld 34 [] [] h id bs := ⟨p, v, h1, h2, h3⟩
  obtain ⟨v1, g, hcl, rfl, ⟨p', v', hg, hp', hbs⟩, hbuf, hn, hfr⟩ := (WriteRune_run (D := drawnOf Tryd.prog T) (t := 34) (pre := []) (post := []) blies (hooksOf_none n69) (hb_hook k77) (hooksOf_none nWR) m (by omega) hb c ((zs.map byt).drop bs.length) (by simp only [List.length_drop, hzl]; unfold capL at hc4; omega) (fun u g1 hu => by
    have hok : ∀ e ∈ ([.row u 5 1 ((bs.map fun b => (b.toNat : Int)).map (cellI .u8))] : List Ent), e.ok g1 := fun e he => by
      rw [List.mem_singleton.1 he]
      refine ⟨fun x hx => ?_, ?_⟩
      · obtain ⟨z, _, rfl⟩ := List.mem_map.1 hx; rfl
      · rcases hu with ⟨rfl, rfl⟩ | ⟨k, _, rfl, hk⟩
        · exact .inl ⟨rfl, rfl⟩
        · exact .inr ⟨k, by simp, by rw [cellI_nat]; exact hk⟩
    have hnd : (([.row u 5 1 ((bs.map fun b => (b.toNat : Int)).map (cellI .u8))] : List Ent).flatMap Ent.ids).Nodup := by
      rcases hu with ⟨_, rfl⟩ | ⟨k, _, rfl, hk⟩ <;> simp [Ent.ids, idsOf]
    obtain ⟨v2, g2, e2, w, rfl, S2⟩ := (hW g1 u hok hnd).out
    have hw := S2.ok _ (List.mem_cons_self ..)
    refine ⟨v2, g2, e2, ?_, fun k hk => ?_, S2.n, fun k o hk hku => S2.old k o (by simpa [Ent.ids] using hku) hk⟩
    · rw [hsplit]
      rcases hw.2 with ⟨hz, _⟩ | ⟨k, hk1, hk2⟩
      · rw [List.map_eq_nil_iff] at hz; subst hz; simp at hc2
      · refine .inr ⟨k, fun hh => ?_, ?_, ?_⟩
        · rw [List.map_eq_nil_iff] at hh; subst hh; simp at hc2
        · rw [hk1, List.length_map, List.length_map]
        · rw [hk2, cellI_byt hc1]
    · have := S2.own _ (List.mem_cons_self ..) k (by simpa [Ent.ids] using hk)
      simpa [Ent.ids] using this)).out
  rw [hsplit] at hbs
  have hv' : idsOf v' = [] ∨ ∃ k q, v' = .sl k 0 q 1 ∧ k ≠ id := by
    rcases hbs with ⟨_, rfl⟩ | ⟨k, _, rfl, hk⟩
    · exact .inl rfl
    · exact .inr ⟨k, _, rfl, fun hh => by subst hh; rw [hg] at hk; exact bobj_ne hk⟩
  have hlen : (((zs.map byt).drop bs.length).length : Int) = ((zs.map byt).length : Int) - (bs.length : Int) := by rw [List.length_drop]; omega
  refine ⟨p', v', g, by rw [← hlen]; exact hcl, S.upd i hi (.bld id p' v' _ _ _) hn (fun k o hk hgk => hfr k o hgk (fun hh => hk (by simp [Ent.ids, hh])) (fun ⟨p2, n2, h4⟩ => hk ?_)) ⟨hg, hp', hbs⟩ (fun k hk => ?_) ?_⟩
  · rw [h1] at h4
    rw [bobj_inj (t := 34) (pre := []) (post := []) h4]; simp [Ent.ids, idsOf]
  · simp only [Ent.ids, List.mem_cons] at hk ⊢
    rcases hk with rfl | hk
    · exact .inl (.inl rfl)
    · rcases hv' with h5 | ⟨k', q, rfl, hne⟩
      · rw [h5] at hk; cases hk
      · simp [idsOf] at hk
        subst hk
        rcases hbuf k ⟨p', q, hg⟩ with ⟨p2, n2, h4⟩ | h4
        · rw [h1] at h4
          rw [bobj_inj (t := 34) (pre := []) (post := []) h4]; simp [idsOf]
        · exact .inr h4
  · rcases hv' with h5 | ⟨k', q, rfl, hne⟩
    · simp [Ent.ids, h5]
    · simp [Ent.ids, idsOf]; exact fun hh => hne hh.symm
end Go.Proofs.YtikkpmmhejjpaaaDoorM
