/- Layer 40 in plain terms: what is made. -/
import Derived.Test.YtikkpmmhejjpaaaDEP40c
set_option linter.unusedSimpArgs false
set_option linter.unusedVariables false
namespace Go.Proofs.YtikkpmmhejjpaaaM
open Go Go.RowKit

/-! ### Maps -/
section
variable {κ ν : Type} [DecidableEq κ]
theorem idx_append (k k1 : κ) (v : ν) (b : Nat) : ∀ (es : List (κ × ν × Nat)) (i : Nat), GMap.idx k (es ++ [(k1, v, b)]) i = match GMap.idx k es i with
    | some x => some x
    | none => if k = k1 then some (i + es.length, v, b) else none
  | [], i => by simp [GMap.idx]
  | (k', v', b') :: es, i => by
    simp only [List.cons_append, GMap.idx]
    by_cases c : k = k'
    · simp [c]
    · simp only [c, if_false]
      rw [idx_append k k1 v b es (i + 1)]
      cases GMap.idx k es (i + 1) with
      | some x => rfl
      | none => simp only [List.length_cons]; split <;> simp <;> omega
theorem mget_mnew (k : κ) : mget (mnew : GMap κ ν) k = none := rfl
theorem mget_mset_new (m : GMap κ ν) (k k' : κ) (v : ν) (h : mget m k = none) : mget (mset m k v) k' = if k' = k then some v else mget m k' := by
  have hi : GMap.idx k m.es 0 = none := by
    unfold mget at h
    cases hx : GMap.idx k m.es 0 with
    | none => rfl
    | some x => rw [hx] at h; cases h
  unfold mset
  rw [hi]
  unfold mget
  simp only
  rw [idx_append]
  by_cases c : k' = k
  · subst c; rw [hi]; simp
  · rw [if_neg c, if_neg c]
    cases GMap.idx k' m.es 0 <;> rfl
end

/-! ### Where blocks of the old contents begin -/
def GoodM (old : List UInt8) (m : GMap (List UInt8) Int) : Prop := ∀ k v, mget m k = some v → ∃ i : Nat, v = (i : Int) ∧ i + 16 ≤ old.length ∧ (old.take (i + 16)).drop i = k

theorem index_eq (mk : Gdelta_maker) (ho : mk.xold.length < 1000) (hm : GoodM mk.xold mk.xblocks) : ∃ b, F_delta_maker_index mk = some ⟨mk.xold, mk.xto, mk.xout, mk.xsaid, b⟩ ∧ GoodM mk.xold b := by
  have hr := iter_inv (step := L_delta_maker_index_1 mk) (fun s => GoodM mk.xold s.1 ∧ ∃ i : Nat, s.2 = (i : Int) ∧ i ≤ mk.xold.length + 16) (fun s => mk.xold.length + 32 - s.2.toNat) (fun r => GoodM mk.xold r) (by
    rintro ⟨b, i'⟩ ⟨hb, i, hi, hle⟩
    simp only at hb hi
    subst hi
    have w : IntKind.i64.wrap ((i : Int) + 16) = ((i + 16 : Nat) : Int) := by rw [wrap_i64 (by omega) (by omega)]; omega
    unfold L_delta_maker_index_1
    simp only [w]
    by_cases c : ((i + 16 : Nat) : Int) ≤ mk.xold.length
    · left
      have sb : subS mk.xold (i : Int) ((i + 16 : Nat) : Int) = some ((mk.xold.take (i + 16)).drop i) := by unfold subS; rw [if_pos (by omega), Int.toNat_natCast, Int.toNat_natCast]
      simp only [if_pos c, sb, Option.bind_some]
      cases hg : mget b ((mk.xold.take (i + 16)).drop i) with
      | some v =>
        refine ⟨(b, ((i + 16 : Nat) : Int)), by simp, ⟨hb, i + 16, rfl, by omega⟩, by simp only; omega⟩
      | none =>
        refine ⟨(mset b ((mk.xold.take (i + 16)).drop i) (i : Int), ((i + 16 : Nat) : Int)), by simp, ⟨fun k v hk => ?_, i + 16, rfl, by omega⟩, by simp only; omega⟩
        simp only at hk
        rw [mget_mset_new _ _ _ _ hg] at hk
        split at hk
        · rename_i hkk
          cases hk
          exact ⟨i, rfl, by omega, hkk.symm⟩
        · exact hb k v hk
    · right
      exact ⟨b, by rw [if_neg c], hb⟩) NF (mk.xblocks, 0) ⟨hm, 0, rfl, by omega⟩ (by rw [NF_eq]; simp only; omega)
  obtain ⟨r, h1, h2⟩ := hr
  exact ⟨r, by unfold F_delta_maker_index; rw [h1]; rfl, h2⟩

theorem bne40 {a b : UInt8} (h : ¬ a = b) : ¬ ((((a.toNat : Nat) : Int) == ((b.toNat : Nat) : Int)) = true) := fun hh => by
  simp only [beq_iff_eq] at hh
  exact h (UInt8.toNat_inj.1 (by omega))
theorem getD_drop_take (l : List UInt8) (a n j : Nat) (hj : j < n) : ((l.take (a + n)).drop a).getD j 0 = l.getD (a + j) 0 := by
  simp only [List.getD_eq_getElem?_getD, List.getElem?_drop, List.getElem?_take]
  rw [if_pos (by omega)]

/-- A place of the old contents for one of the new ones. -/
theorem found_eq (mk : Gdelta_maker) (said at_ : Nat) (ho : mk.xold.length < 1000) (ht : mk.xto.length < 1000) (hm : GoodM mk.xold mk.xblocks) (hs : mk.xsaid = (said : Int)) (hsa : said ≤ at_) (hat : at_ + 16 ≤ mk.xto.length) :
    ∃ f b n : Nat, F_delta_maker_found mk (at_ : Int) = some (mk, (f : Int), (b : Int), (n : Int)) ∧ ((b = 0 ∧ n = 0) ∨
      (16 ≤ n ∧ b ≤ f ∧ b ≤ at_ - said ∧ f + n ≤ mk.xold.length ∧ at_ + n ≤ mk.xto.length ∧ ∀ j, j < b + n → mk.xold.getD (f - b + j) 0 = mk.xto.getD (at_ - b + j) 0)) := by
  have w16 : IntKind.i64.wrap ((at_ : Int) + 16) = ((at_ + 16 : Nat) : Int) := by rw [wrap_i64 (by omega) (by omega)]; omega
  have sb : subS mk.xto (at_ : Int) ((at_ + 16 : Nat) : Int) = some ((mk.xto.take (at_ + 16)).drop at_) := by unfold subS; rw [if_pos (by omega), Int.toNat_natCast, Int.toNat_natCast]
  unfold F_delta_maker_found
  rw [w16, sb]
  simp only [Option.bind_some]
  cases hg : mget mk.xblocks ((mk.xto.take (at_ + 16)).drop at_) with
  | none => exact ⟨0, 0, 0, by simp, .inl ⟨rfl, rfl⟩⟩
  | some v =>
    obtain ⟨f, rfl, hf, hk⟩ := hm _ _ hg
    have hbase : ∀ j, j < 16 → mk.xold.getD (f + j) 0 = mk.xto.getD (at_ + j) 0 := fun j hj => by
      rw [← getD_drop_take mk.xold f 16 j hj, hk, getD_drop_take mk.xto at_ 16 j hj]
    have hmn : ∀ s : Nat, ((s : Int) < minI (f : Int) (IntKind.i64.wrap ((at_ : Int) - mk.xsaid)) ↔ s < f ∧ s < at_ - said) := fun s => by
      rw [hs, wrap_i64 (by omega) (by omega)]
      unfold minI
      split <;> omega
    have h1 := iter_inv (step := L_delta_maker_found_1 mk ((mk.xto.take (at_ + 16)).drop at_) (at_ : Int)) (fun s => ∃ b : Nat, s = (b : Int) ∧ b ≤ f ∧ b ≤ at_ - said ∧ ∀ j, j < b → mk.xold.getD (f - 1 - j) 0 = mk.xto.getD (at_ - 1 - j) 0) (fun s => f - s.toNat)
      (fun r => ∃ b : Nat, r = (b : Int) ∧ b ≤ f ∧ b ≤ at_ - said ∧ ∀ j, j < b → mk.xold.getD (f - 1 - j) 0 = mk.xto.getD (at_ - 1 - j) 0) (by
        rintro s ⟨b, rfl, h2, h3, h4⟩
        unfold L_delta_maker_found_1
        simp only [hg, Option.getD_some, hmn]
        by_cases c : b < f ∧ b < at_ - said
        · have w1 : IntKind.i64.wrap (IntKind.i64.wrap ((f : Int) - (b : Int)) - 1) = ((f - 1 - b : Nat) : Int) := by rw [wrap_i64 (n := (f : Int) - b) (by omega) (by omega), wrap_i64 (by omega) (by omega)]; omega
          have w2 : IntKind.i64.wrap (IntKind.i64.wrap ((at_ : Int) - (b : Int)) - 1) = ((at_ - 1 - b : Nat) : Int) := by rw [wrap_i64 (n := (at_ : Int) - b) (by omega) (by omega), wrap_i64 (by omega) (by omega)]; omega
          have i1 : idxS mk.xold ((f - 1 - b : Nat) : Int) = some ((mk.xold.getD (f - 1 - b) 0).toNat : Int) := by unfold idxS; rw [if_pos (by omega), Int.toNat_natCast]
          have i2 : idxS mk.xto ((at_ - 1 - b : Nat) : Int) = some ((mk.xto.getD (at_ - 1 - b) 0).toNat : Int) := by unfold idxS; rw [if_pos (by omega), Int.toNat_natCast]
          have w3 : IntKind.i64.wrap ((b : Int) + 1) = ((b + 1 : Nat) : Int) := by rw [wrap_i64 (by omega) (by omega)]; omega
          simp only [if_pos c, w1, w2, i1, i2, Option.bind_some, w3]
          by_cases ce : mk.xold.getD (f - 1 - b) 0 = mk.xto.getD (at_ - 1 - b) 0
          · left
            refine ⟨_, by rw [if_pos (by rw [ce]; simp)], ⟨b + 1, rfl, by omega, by omega, fun j hj => ?_⟩, by simp only [Int.toNat_natCast]; omega⟩
            by_cases cj : j < b
            · exact h4 j cj
            · obtain rfl : j = b := by omega
              exact ce
          · right
            exact ⟨_, by rw [if_neg (bne40 ce)], b, rfl, h2, h3, h4⟩
        · right
          exact ⟨_, by rw [if_neg c]; rfl, b, rfl, h2, h3, h4⟩) NF 0 ⟨0, rfl, by omega, by omega, fun j hj => by omega⟩ (by rw [NF_eq]; simp; omega)
    have h2 := iter_inv (step := L_delta_maker_found_2 mk ((mk.xto.take (at_ + 16)).drop at_) (at_ : Int)) (fun s => ∃ n : Nat, s = (n : Int) ∧ 16 ≤ n ∧ f + n ≤ mk.xold.length ∧ at_ + n ≤ mk.xto.length ∧ ∀ j, j < n → mk.xold.getD (f + j) 0 = mk.xto.getD (at_ + j) 0) (fun s => mk.xold.length - s.toNat)
      (fun r => ∃ n : Nat, r = (n : Int) ∧ 16 ≤ n ∧ f + n ≤ mk.xold.length ∧ at_ + n ≤ mk.xto.length ∧ ∀ j, j < n → mk.xold.getD (f + j) 0 = mk.xto.getD (at_ + j) 0) (by
        rintro s ⟨n, rfl, h16, h2, h3, h4⟩
        have w1 : IntKind.i64.wrap ((f : Int) + (n : Int)) = ((f + n : Nat) : Int) := by rw [wrap_i64 (by omega) (by omega)]; omega
        have w2 : IntKind.i64.wrap ((at_ : Int) + (n : Int)) = ((at_ + n : Nat) : Int) := by rw [wrap_i64 (by omega) (by omega)]; omega
        have w3 : IntKind.i64.wrap ((n : Int) + 1) = ((n + 1 : Nat) : Int) := by rw [wrap_i64 (by omega) (by omega)]; omega
        unfold L_delta_maker_found_2
        simp only [hg, Option.getD_some, w1, w2, w3]
        by_cases c : ((f + n : Nat) : Int) < mk.xold.length
        · by_cases c' : ((at_ + n : Nat) : Int) < mk.xto.length
          · have i1 : idxS mk.xold ((f + n : Nat) : Int) = some ((mk.xold.getD (f + n) 0).toNat : Int) := by unfold idxS; rw [if_pos (by omega), Int.toNat_natCast]
            have i2 : idxS mk.xto ((at_ + n : Nat) : Int) = some ((mk.xto.getD (at_ + n) 0).toNat : Int) := by unfold idxS; rw [if_pos (by omega), Int.toNat_natCast]
            simp only [if_pos c, if_pos c', i1, i2, Option.bind_some]
            by_cases ce : mk.xold.getD (f + n) 0 = mk.xto.getD (at_ + n) 0
            · left
              refine ⟨_, by rw [if_pos (by rw [ce]; simp)], ⟨n + 1, rfl, by omega, by omega, by omega, fun j hj => ?_⟩, by simp only [Int.toNat_natCast]; omega⟩
              by_cases cj : j < n
              · exact h4 j cj
              · obtain rfl : j = n := by omega
                exact ce
            · right
              exact ⟨_, by rw [if_neg (bne40 ce)], n, rfl, h16, h2, h3, h4⟩
          · right
            exact ⟨_, by rw [if_pos c, if_neg c']; rfl, n, rfl, h16, h2, h3, h4⟩
        · right
          exact ⟨_, by rw [if_neg c]; rfl, n, rfl, h16, h2, h3, h4⟩) NF 16 ⟨16, rfl, Nat.le_refl _, by omega, by omega, hbase⟩ (by rw [NF_eq]; simp; omega)
    obtain ⟨_, r1, b, rfl, b1, b2, b3⟩ := h1
    obtain ⟨_, r2, n, rfl, n0, n1, n2, n3⟩ := h2
    refine ⟨f, b, n, by rw [if_neg (by simp), r1, r2]; rfl, .inr ⟨n0, b1, b2, n1, n2, fun j hj => ?_⟩⟩
    by_cases c : j < b
    · have := b3 (b - 1 - j) (by omega)
      rw [show f - 1 - (b - 1 - j) = f - b + j by omega, show at_ - 1 - (b - 1 - j) = at_ - b + j by omega] at this
      exact this
    · have := n3 (j - b) (by omega)
      rw [show f + (j - b) = f - b + j by omega, show at_ + (j - b) = at_ - b + j by omega] at this
      exact this

/-! ### What has been said -/
def MInv (old to : List UInt8) (mk : Gdelta_maker) (said : Nat) : Prop :=
  mk.xold = old ∧ mk.xto = to ∧ mk.xsaid = (said : Int) ∧ said ≤ to.length ∧ GoodM old mk.xblocks ∧ mk.xout.length ≤ 9 * said ∧
    ∃ l : List Stp, (∀ s ∈ l, s.ok old) ∧ l.length ≤ said ∧ mk.xout = l.flatMap Stp.enc ∧ l.flatMap (Stp.bytes old) = to.take said

theorem numbI (x : Int) (m : Nat) (hx : x = (m : Int)) (hm : m < 268435456) : F_delta_number x = some (numB 3 m) := by subst hx; exact number40 m hm

theorem give_eq (old to : List UInt8) (ho : old.length < 1000) (ht : to.length < 1000) (mk : Gdelta_maker) (said a : Nat) (h : MInv old to mk said) (h1 : said ≤ a) (h2 : a ≤ to.length) :
    ∃ mk', F_delta_maker_give mk (a : Int) = some mk' ∧ MInv old to mk' a := by
  obtain ⟨rfl, rfl, g3, g4, g5, g6, l, g7, g8, g9, g10⟩ := h
  have w1 : IntKind.i64.wrap ((a : Int) - mk.xsaid) = ((a - said : Nat) : Int) := by rw [g3, wrap_i64 (by omega) (by omega)]; omega
  unfold F_delta_maker_give
  rw [w1]
  by_cases c : ((a - said : Nat) : Int) > 0
  · have w2 : IntKind.i64.wrap (2 * ((a - said : Nat) : Int)) = ((2 * (a - said) : Nat) : Int) := by rw [wrap_i64 (by omega) (by omega)]; omega
    have w3 : IntKind.i64.wrap (((2 * (a - said) : Nat) : Int) + 1) = ((2 * (a - said) + 1 : Nat) : Int) := by rw [wrap_i64 (by omega) (by omega)]; omega
    have sb : subS mk.xto mk.xsaid (a : Int) = some ((mk.xto.take a).drop said) := by rw [g3]; unfold subS; rw [if_pos (by omega), Int.toNat_natCast, Int.toNat_natCast]
    have hl : ((mk.xto.take a).drop said).length = a - said := by simp; omega
    have nl := numB_len 3 (2 * (a - said) + 1)
    have e1 : cat (numB 3 (2 * (a - said) + 1)) ((mk.xto.take a).drop said) = some (numB 3 (2 * (a - said) + 1) ++ (mk.xto.take a).drop said) := cat_eq _ _ (by omega)
    have e2 : app mk.xout (numB 3 (2 * (a - said) + 1) ++ (mk.xto.take a).drop said) = some (mk.xout ++ (numB 3 (2 * (a - said) + 1) ++ (mk.xto.take a).drop said)) := app_one _ _ (by rw [List.length_append]; omega)
    rw [if_pos c, w2, w3, number40 _ (by omega), sb]
    simp only [Option.bind_some, e1, e2]
    refine ⟨_, rfl, rfl, rfl, rfl, h2, g5, by simp only [List.length_append]; omega, l ++ [.own ((mk.xto.take a).drop said)], ?_, by simp; omega, ?_, ?_⟩
    · intro s hs
      rcases List.mem_append.1 hs with h3 | h3
      · exact g7 s h3
      · rw [List.mem_singleton.1 h3]; exact ⟨by omega, by omega⟩
    · simp only [List.flatMap_append, List.flatMap_cons, List.flatMap_nil, List.append_nil, ← g9, Stp.enc, hl]
    · simp only [List.flatMap_append, List.flatMap_cons, List.flatMap_nil, List.append_nil, g10, Stp.bytes]
      have := List.take_append_drop said (mk.xto.take a)
      rw [List.take_take, Nat.min_eq_left h1] at this
      exact this
  · rw [if_neg c]
    obtain rfl : a = said := by omega
    exact ⟨mk, rfl, rfl, rfl, g3, g4, g5, g6, l, g7, g8, g9, g10⟩

theorem copied_eq (old to : List UInt8) (ho : old.length < 1000) (ht : to.length < 1000) (mk : Gdelta_maker) (said f n : Nat) (h : MInv old to mk said) (hn : 0 < n) (h1 : f + n ≤ old.length) (h2 : said + n ≤ to.length) (h3 : ∀ j, j < n → old.getD (f + j) 0 = to.getD (said + j) 0) :
    ∃ mk', F_delta_maker_copied mk (f : Int) (n : Int) = some mk' ∧ MInv old to mk' (said + n) := by
  obtain ⟨rfl, rfl, g3, g4, g5, g6, l, g7, g8, g9, g10⟩ := h
  have w2 : IntKind.i64.wrap (2 * (n : Int)) = ((2 * n : Nat) : Int) := by rw [wrap_i64 (by omega) (by omega)]; omega
  have w3 : IntKind.i64.wrap (mk.xsaid + (n : Int)) = ((said + n : Nat) : Int) := by rw [g3, wrap_i64 (by omega) (by omega)]; omega
  have n1 := numB_len 3 (2 * n)
  have n2 := numB_len 3 f
  have e1 : cat (numB 3 (2 * n)) (numB 3 f) = some (numB 3 (2 * n) ++ numB 3 f) := cat_eq _ _ (by omega)
  have e2 : app mk.xout (numB 3 (2 * n) ++ numB 3 f) = some (mk.xout ++ (numB 3 (2 * n) ++ numB 3 f)) := app_one _ _ (by rw [List.length_append]; omega)
  unfold F_delta_maker_copied
  rw [w2, number40 _ (by omega), number40 f (by omega)]
  simp only [Option.bind_some, e1, e2, w3]
  refine ⟨_, rfl, rfl, rfl, rfl, h2, g5, by simp only [List.length_append]; omega, l ++ [.copy f n], ?_, by simp; omega, ?_, ?_⟩
  · intro s hs
    rcases List.mem_append.1 hs with h4 | h4
    · exact g7 s h4
    · rw [List.mem_singleton.1 h4]; exact ⟨hn, h1⟩
  · simp only [List.flatMap_append, List.flatMap_cons, List.flatMap_nil, List.append_nil, ← g9, Stp.enc]
  · simp only [List.flatMap_append, List.flatMap_cons, List.flatMap_nil, List.append_nil, g10, Stp.bytes]
    have e : (mk.xold.drop f).take n = (mk.xto.take (said + n)).drop said := by
      apply List.ext_getElem
      · simp; omega
      · intro j hj1 hj2
        have hj : j < n := by simp at hj1; omega
        have := h3 j hj
        simp only [List.getD_eq_getElem?_getD] at this
        rw [List.getElem?_eq_getElem (by omega), List.getElem?_eq_getElem (by omega)] at this
        simpa using this
    rw [e]
    have := List.take_append_drop said (mk.xto.take (said + n))
    rw [List.take_take, Nat.min_eq_left (by omega)] at this
    exact this

theorem steps_eq (old to : List UInt8) (ho : old.length < 1000) (ht : to.length < 1000) (mk : Gdelta_maker) (h : MInv old to mk 0) : ∃ mk', F_delta_maker_steps mk = some mk' ∧ MInv old to mk' to.length := by
  have hr := iter_inv (step := L_delta_maker_steps_1) (fun s => ∃ said a : Nat, MInv old to ⟨s.1, s.2.1, s.2.2.1, s.2.2.2.1, s.2.2.2.2.1⟩ said ∧ s.2.2.2.2.2 = (a : Int) ∧ said ≤ a ∧ a ≤ to.length) (fun s => to.length + 1 - s.2.2.2.2.2.toNat)
    (fun r => ∃ said : Nat, MInv old to ⟨r.1, r.2.1, r.2.2.1, r.2.2.2.1, r.2.2.2.2⟩ said) (by
      rintro ⟨s1, s2, s3, s4, s5, s6⟩ ⟨said, a, hi, ha, h1, h2⟩
      simp only at ha hi
      subst ha
      obtain ⟨g1, g2, g3, g4, g5, g6, g7⟩ := hi
      have hi : MInv old to ⟨s1, s2, s3, s4, s5⟩ said := ⟨g1, g2, g3, g4, g5, g6, g7⟩
      simp only at g1 g2 g3 g5
      subst g1; subst g2
      have w16 : IntKind.i64.wrap ((a : Int) + 16) = ((a + 16 : Nat) : Int) := by rw [wrap_i64 (by omega) (by omega)]; omega
      unfold L_delta_maker_steps_1
      simp only [w16]
      by_cases c : ((a + 16 : Nat) : Int) ≤ s2.length
      · left
        obtain ⟨f, b, n, e1, e2⟩ := found_eq ⟨s1, s2, s3, s4, s5⟩ said a ho ht g5 g3 h1 (by simp only; omega)
        simp only at e2
        have wb : IntKind.i64.wrap ((b : Int) + (n : Int)) = ((b + n : Nat) : Int) := by
          rcases e2 with ⟨rfl, rfl⟩ | ⟨q0, q1, q2, q3, q4, q5⟩
          · rfl
          · rw [wrap_i64 (by omega) (by omega)]; omega
        rw [if_pos c, e1]
        simp only [Option.bind_some, wb]
        by_cases c2 : ((b + n : Nat) : Int) < 24
        · have w1 : IntKind.i64.wrap ((a : Int) + 1) = ((a + 1 : Nat) : Int) := by rw [wrap_i64 (by omega) (by omega)]; omega
          exact ⟨(s1, s2, s3, s4, s5, ((a + 1 : Nat) : Int)), by rw [if_pos c2, w1], ⟨said, a + 1, hi, rfl, by omega, by omega⟩, by simp only [Int.toNat_natCast]; omega⟩
        · rcases e2 with ⟨rfl, rfl⟩ | ⟨q0, q1, q2, q3, q4, q5⟩
          · omega
          have wa : IntKind.i64.wrap ((a : Int) - (b : Int)) = ((a - b : Nat) : Int) := by rw [wrap_i64 (by omega) (by omega)]; omega
          have wf : IntKind.i64.wrap ((f : Int) - (b : Int)) = ((f - b : Nat) : Int) := by rw [wrap_i64 (by omega) (by omega)]; omega
          obtain ⟨m1, k1, k2⟩ := give_eq s1 s2 ho ht _ said (a - b) hi (by omega) (by omega)
          obtain ⟨m2, k3, k4⟩ := copied_eq s1 s2 ho ht m1 (a - b) (f - b) (b + n) k2 (by omega) (by omega) (by omega) q5
          rw [if_neg c2, wa, k1]
          simp only [Option.bind_some, wf, k3]
          refine ⟨_, rfl, ⟨a - b + (b + n), a - b + (b + n), k4, k4.2.2.1, Nat.le_refl _, k4.2.2.2.1⟩, ?_⟩
          simp only [k4.2.2.1, Int.toNat_natCast]
          omega
      · right
        exact ⟨_, by rw [if_neg c], said, hi⟩) NF (mk.xold, mk.xto, mk.xout, mk.xsaid, mk.xblocks, 0) ⟨0, 0, h, rfl, by omega, by omega⟩ (by rw [NF_eq]; simp only; omega)
  obtain ⟨r, r1, said, r2⟩ := hr
  obtain ⟨m', k1, k2⟩ := give_eq old to ho ht _ said to.length r2 r2.2.2.2.1 (Nat.le_refl _)
  refine ⟨m', ?_, k2⟩
  unfold F_delta_maker_steps
  rw [r1]
  simp only [Option.bind_some]
  have e : r.2.1 = to := r2.2.1
  rw [e] at k1 ⊢
  rw [k1]
  rfl

/-- What is made: steps behind both lengths. -/
theorem make_eq (old to : List UInt8) (ho : old.length < 1000) (ht : to.length < 1000) : ∃ l : List Stp, F_delta_Make old to = some (numB 3 old.length ++ numB 3 to.length ++ l.flatMap Stp.enc, 0) ∧ (∀ s ∈ l, s.ok old) ∧ l.flatMap (Stp.bytes old) = to ∧ l.length < 10000 ∧
    (l.flatMap Stp.enc).length ≤ 8 + to.length ∧ (old = to → (l.flatMap Stp.enc).length ≤ 8) := by
  have n1 := numB_len 3 old.length
  have n2 := numB_len 3 to.length
  have n3 := numB_len 3 (2 * to.length)
  have n4 := numB_len 3 0
  have n5 := numB_len 3 (2 * to.length + 1)
  have hmx : ¬ (maxI (old.length : Int) (to.length : Int)) > 4194304 := by unfold maxI; split <;> omega
  have e0 : cat (numB 3 old.length) (numB 3 to.length) = some (numB 3 old.length ++ numB 3 to.length) := cat_eq _ _ (by omega)
  unfold F_delta_Make
  rw [if_neg hmx, number40 _ (by omega), number40 _ (by omega)]
  simp only [Option.bind_some, e0]
  by_cases c : old = to
  · subst c
    simp only [beq_self_eq_true, if_true]
    by_cases c2 : old = []
    · subst c2
      exact ⟨[], by simp [Stp.enc], (fun s hs => by cases hs), rfl, by simp, by simp, by simp⟩
    · have hp : 0 < old.length := List.length_pos_iff.2 c2
      have w : IntKind.i64.wrap (2 * (old.length : Int)) = ((2 * old.length : Nat) : Int) := by rw [wrap_i64 (by omega) (by omega)]; omega
      have z : F_delta_number 0 = some (numB 3 0) := number40 0 (by omega)
      rw [if_neg (by simpa using c2), w, number40 _ (by omega)]
      simp only [Option.bind_some]
      rw [cat_eq _ _ (by rw [List.length_append]; omega)]
      simp only [Option.bind_some, z]
      rw [cat_eq _ _ (by simp only [List.length_append]; omega)]
      refine ⟨[.copy 0 old.length], by simp [Stp.enc], fun s hs => ?_, by simp [Stp.bytes], by simp, by simp [Stp.enc]; omega, fun _ => by simp [Stp.enc]; omega⟩
      rw [List.mem_singleton.1 hs]; exact ⟨hp, by omega⟩
  · rw [if_neg (by simpa using c)]
    obtain ⟨b, i1, i2⟩ := index_eq ⟨old, to, [], 0, mnew⟩ ho (fun k v hk => by rw [mget_mnew] at hk; cases hk)
    obtain ⟨m', s1, s2⟩ := steps_eq old to ho ht ⟨old, to, [], 0, b⟩ ⟨rfl, rfl, rfl, by omega, i2, by simp, [], (fun s hs => by cases hs), by simp, rfl, by simp⟩
    obtain ⟨g1, g2, g3, g4, g5, g6, l, g7, g8, g9, g10⟩ := s2
    have w : IntKind.i64.wrap (2 * (to.length : Int)) = ((2 * to.length : Nat) : Int) := by rw [wrap_i64 (by omega) (by omega)]; omega
    have w' : IntKind.i64.wrap (((2 * to.length : Nat) : Int) + 1) = ((2 * to.length + 1 : Nat) : Int) := by rw [wrap_i64 (by omega) (by omega)]; omega
    have e1 : cat (numB 3 (2 * to.length + 1)) to = some (numB 3 (2 * to.length + 1) ++ to) := cat_eq _ _ (by omega)
    have e2 : cat (numB 3 old.length ++ numB 3 to.length) (numB 3 (2 * to.length + 1) ++ to) = some (numB 3 old.length ++ numB 3 to.length ++ (numB 3 (2 * to.length + 1) ++ to)) := cat_eq _ _ (by simp only [List.length_append]; omega)
    have e3 : cat (numB 3 old.length ++ numB 3 to.length) m'.xout = some (numB 3 old.length ++ numB 3 to.length ++ m'.xout) := cat_eq _ _ (by simp only [List.length_append]; omega)
    have ck : chkCap m'.xout = some () := by unfold chkCap; rw [if_pos (by unfold capL; omega)]
    simp only at i1
    rw [i1]
    simp only [Option.bind_some, s1, w, w', number40 (2 * to.length + 1) (by omega), e1]
    have steps : (to = [] ∨ ((m'.xout.length : Int) ≤ ((numB 3 (2 * to.length + 1) ++ to).length : Int))) → (l.flatMap Stp.enc).length ≤ 8 + to.length := fun hh => by
      rw [← g9]
      rcases hh with rfl | hh
      · simp at g6; rw [g6]; simp
      · rw [List.length_append] at hh; omega
    by_cases c2 : to = []
    · rw [if_neg (by simp [c2])]
      simp only [Option.bind_some, Bool.false_eq_true, if_false, ck, e3]
      exact ⟨l, by rw [g9], g7, by rw [g10, List.take_length], by omega, steps (.inl c2), fun hh => absurd hh c⟩
    · rw [if_pos (by simpa using c2)]
      simp only [Option.bind_some]
      by_cases c3 : (m'.xout.length : Int) > ((numB 3 (2 * to.length + 1) ++ to).length : Int)
      · rw [if_pos (by simpa using c3), e2]
        refine ⟨[.own to], by simp [Stp.enc], fun s hs => ?_, by simp [Stp.bytes], by simp, by simp [Stp.enc]; omega, fun hh => absurd hh c⟩
        rw [List.mem_singleton.1 hs]; exact ⟨List.length_pos_iff.2 c2, by omega⟩
      · rw [if_neg (by simpa using c3)]
        simp only [ck, Option.bind_some, e3]
        exact ⟨l, by rw [g9], g7, by rw [g10, List.take_length], by omega, steps (.inr (by omega)), fun hh => absurd hh c⟩

theorem true_law40_DeltaMakes (old to : List UInt8) : F_law40_DeltaMakes old to = some true := by
  unfold F_law40_DeltaMakes
  rw [awake40]
  simp only [Option.bind_some, Bool.not_true, Bool.false_eq_true, if_false]
  by_cases c1 : (old.length : Int) > 600
  · simp [c1]
  by_cases c2 : (to.length : Int) > 600
  · simp [c1, c2]
  have n1 := numB_len 3 old.length
  have n2 := numB_len 3 to.length
  obtain ⟨l, m1, m2, m3, m4, m5, m6⟩ := make_eq old to (by omega) (by omega)
  have ra := ref_apply old l to m2 m3 (by omega) (by omega) (by omega) (by omega)
  generalize hd : numB 3 old.length ++ numB 3 to.length ++ l.flatMap Stp.enc = d at m1 ra
  have hdl : d.length ≤ 16 + to.length := by rw [← hd]; simp only [List.length_append]; omega
  have hds : old = to → d.length ≤ 16 := fun hh => by have := m6 hh; rw [← hd]; simp only [List.length_append]; omega
  obtain ⟨r, a1, a2⟩ := Apply40 old d (by omega) (by omega)
  obtain rfl : r = (to, 0) := by rw [ra] at a2; exact (Option.some.inj a2).symm
  have w : IntKind.i64.wrap (16 + (to.length : Int)) = 16 + (to.length : Int) := wrap_i64 (by omega) (by omega)
  have hle : (d.length : Int) ≤ 16 + (to.length : Int) := by omega
  simp only [if_neg c1, decide_eq_false c2, Option.bind_some, Bool.false_eq_true, if_false, m1, a1, a2, beq_self_eq_true, if_true, w, if_pos hle]
  by_cases c3 : old = to
  · have := hds c3
    simp [c3]; omega
  · simp [c3]
end Go.Proofs.YtikkpmmhejjpaaaM
