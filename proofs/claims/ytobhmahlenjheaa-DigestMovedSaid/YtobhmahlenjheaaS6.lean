/- A text's builder that is a part of a composite. -/
import Derived.Test.YtobhmahlenjheaaS5
set_option linter.unusedSimpArgs false
set_option linter.unusedVariables false
namespace Go.Proofs.YtobhmahlenjheaaM
open Go Go.RowKit
variable {h h0 : AH} {X : List Nat} {K : PureK} {T : PTab} {R : List Ent} {t : TypeId} {pre post : List AV} {id : Nat} {p v : AV} {bs : List UInt8}

theorem lent_bld (S : Sep h0 X h (R ++ [.blk id (pre ++ p :: v :: post) t, .buf id pre.length p v 5 bs])) : Bld t pre post h id bs ∧ h.get id = some (bobj t pre post p v) := by
  have h1 := S.okA _ (List.mem_cons_self ..)
  have h2 := S.okA (.buf id pre.length p v 5 bs) (by simp)
  exact ⟨⟨p, v, h1, h2.1, h2.2⟩, h1⟩

theorem Sep.swrite (S : Sep h0 X h (R ++ [.blk id (pre ++ p :: v :: post) t, .buf id pre.length p v 5 bs])) (hlies : BLies t pre.length post.length)
    (k77 : K 128 = some hb77) (n69 : K 106 = none) (n50 : K 66 = none) {l r : List UInt8} (hr : app bs l = some r) (m : Nat) (hm : 3 ≤ m) :
    ∃ p' v' h1, acall Try.prog (hooksOf K) (drawnOf Try.prog T) m 66 [.ptr id pre.length, .str l] h = some (.tup [.int .i64 l.length, .val .nilIface], h1) ∧
      Sep h0 X h1 (R ++ [.blk id (pre ++ p' :: v' :: post) t, .buf id pre.length p' v' 5 r]) := by
  obtain ⟨m, rfl⟩ : ∃ k, m = k + 1 := ⟨m - 1, by omega⟩
  unfold app at hr
  split at hr
  rotate_left
  · cases hr
  rename_i hlen
  cases hr
  obtain ⟨hb, h1⟩ := lent_bld S
  obtain ⟨v1, g, hc, rfl, ⟨p', v', hg, hp', hbs⟩, hbuf, hn, hfr⟩ := (WriteString_run (D := drawnOf Try.prog T) (t := t) (pre := pre) (post := post) hlies (hooksOf_none n69) (hb_hook k77) (hooksOf_none n50) m (by omega) hb l (by unfold capL at hlen; omega)).out
  have hv' : idsOf v' = [] ∨ ∃ k q, v' = .sl k 0 q 1 ∧ k ≠ id := by
    rcases hbs with ⟨_, rfl⟩ | ⟨k, _, rfl, hk⟩
    · exact .inl rfl
    · exact .inr ⟨k, _, rfl, fun hh => by subst hh; rw [hg] at hk; exact bobj_ne hk⟩
  have hin : ∀ k, bufOf t pre post h id k → k ∈ idsOf v := fun k ⟨p2, n2, h4⟩ => by
    rw [h1] at h4
    rw [bobj_inj h4]; simp [idsOf]
  refine ⟨p', v', g, hc, S.callN ⟨hn, fun k o hk hgk => hfr k o hgk (fun hh => hk (by simp [Ent.ids, hh])) (fun hb => hk ?_), fun e he => ?_, fun e he k hk => ?_, ?_⟩⟩
  · simp only [List.flatMap_cons, List.mem_append, Ent.ids]
    exact .inr (.inl (hin k hb))
  · rcases List.mem_cons.1 he with rfl | he
    · exact hg
    · rw [List.mem_singleton.1 he]; exact ⟨hp', hbs⟩
  · rcases List.mem_cons.1 he with rfl | he
    · left; simp only [Ent.ids, List.mem_singleton] at hk; subst hk; simp [Ent.ids]
    · rw [List.mem_singleton.1 he] at hk
      rcases hv' with h5 | ⟨k', q, rfl, hne⟩
      · simp only [Ent.ids] at hk; rw [h5] at hk; cases hk
      · simp [Ent.ids, idsOf] at hk
        subst hk
        rcases hbuf k ⟨p', q, hg⟩ with h4 | h4
        · left; simp only [List.flatMap_cons, List.mem_append, Ent.ids]; exact .inr (.inl (hin k h4))
        · exact .inr h4
  · rcases hv' with h5 | ⟨k', q, rfl, hne⟩
    · simp [Ent.ids, h5]
    · simp [Ent.ids, idsOf]; exact fun hh => hne hh.symm

theorem Sep.slen (S : Sep h0 X h (R ++ [.blk id (pre ++ p :: v :: post) t, .buf id pre.length p v 5 bs])) (n51 : K 105 = none) (m : Nat) (hm : 3 ≤ m) :
    acall Try.prog (hooksOf K) (drawnOf Try.prog T) m 105 [.ptr id pre.length] h = some (.int .i64 bs.length, h) := by
  obtain ⟨m, rfl⟩ : ∃ k, m = k + 1 := ⟨m - 1, by omega⟩
  obtain ⟨v1, g, hc, rfl, rfl⟩ := (Len_run (t := t) (pre := pre) (post := post) (Γ := hooksOf K) (D := drawnOf Try.prog T) (hooksOf_none n51) m (lent_bld S).1).out
  exact hc

theorem Sep.sstring (S : Sep h0 X h (R ++ [.blk id (pre ++ p :: v :: post) t, .buf id pre.length p v 5 bs])) (n52 : K 67 = none) (hl : bs.length ≤ capL) (m : Nat) (hm : 3 ≤ m) :
    ∃ h1, acall Try.prog (hooksOf K) (drawnOf Try.prog T) m 67 [.ptr id pre.length] h = some (.str bs, h1) ∧ Sep h0 X h1 (R ++ [.blk id (pre ++ p :: v :: post) t]) := by
  obtain ⟨m, rfl⟩ : ∃ k, m = k + 1 := ⟨m - 1, by omega⟩
  obtain ⟨hb, h1⟩ := lent_bld S
  obtain ⟨v1, g, hc, rfl, hn, hfr⟩ := (String_run (t := t) (pre := pre) (post := post) (Γ := hooksOf K) (T := T) (hooksOf_none n52) m hb (by unfold capL at hl; omega)).out
  have hin : ∀ k, bufOf t pre post h id k → k ∈ idsOf v := fun k ⟨p2, n2, h4⟩ => by
    rw [h1] at h4
    rw [bobj_inj h4]; simp [idsOf]
  have hnd := S.ndA
  refine ⟨g, hc, S.callN ⟨Nat.le_of_eq hn.symm, fun k o hk hgk => hfr k o hgk (fun hb => hk ?_), fun e he => ?_, fun e he k hk => ?_, by simp [Ent.ids]⟩⟩
  · simp only [List.flatMap_cons, List.mem_append, Ent.ids]
    exact .inr (.inl (hin k hb))
  · rw [List.mem_singleton.1 he]
    refine hfr _ _ h1 fun hb => ?_
    simp [Ent.ids] at hnd
    exact hnd.1 (hin _ hb)
  · rw [List.mem_singleton.1 he] at hk
    left; simp only [Ent.ids, List.mem_singleton] at hk; subst hk; simp [Ent.ids]
theorem Sep.nilbuf {L : List Ent} (S : Sep h0 X h L) (id o : Nat) (be : TypeId) : Sep h0 X h (L ++ [.buf id o (.val (.pointer none)) (.val (.slice none 0 0)) be []]) :=
  S.add (.buf id o _ _ be []) (Nat.le_refl _) (fun _ _ hg => hg) ⟨.inl rfl, .inl ⟨rfl, rfl⟩⟩ (fun k hk => by simp [Ent.ids, idsOf] at hk) (by simp [Ent.ids, idsOf])
end Go.Proofs.YtobhmahlenjheaaM
