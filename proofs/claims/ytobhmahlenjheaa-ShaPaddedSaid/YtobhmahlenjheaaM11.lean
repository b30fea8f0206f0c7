/- Maps, held against the model's. -/
import Derived.Test.YtobhmahlenjheaaM10
set_option linter.unusedSimpArgs false
set_option linter.unusedVariables false
namespace Go.Proofs.YtobhmahlenjheaaM
open Go Go.RowKit

variable {P : Program} {B : Nat} {φ : Nat → Loc} {h : AH} {w : World}

/-- The entries of a map, and the model's. -/
def EntsR (N : Nat → Prop) (φ : Nat → Loc) (es : List (AV × AV × Nat)) (es' : List MapEntry) : Prop :=
  es.length = es'.length ∧ ∀ (i : Nat) (a : AV × AV × Nat) (e : MapEntry), es[i]? = some a → es'[i]? = some e → EntR N φ a e

theorem EntsR.tail {N : Nat → Prop} {a : AV × AV × Nat} {e : MapEntry} {es : List (AV × AV × Nat)} {es' : List MapEntry} (h : EntsR N φ (a :: es) (e :: es')) : EntsR N φ es es' :=
  ⟨by have := h.1; simpa using this, fun i b f hb hf => h.2 (i + 1) b f (by simpa using hb) (by simpa using hf)⟩

theorem key_sound {N : Nat → Prop} {d : TypeDesc} {x y : AV} {x' y' : Value} {b : Bool} (hk : akey (some d) x y = some b) (hx : VR N φ x x') (hy : VR N φ y y') :
    Instr.sameNow d x' y' = some b ∧ (b = true → Instr.sameBits 10000 y' x' = true) := by
  unfold akey at hk
  split at hk
  · rename_i hd; cases hd; cases hx; cases hy
    split at hk
    · rename_i he; subst he; cases hk
      refine ⟨by simp [Instr.sameNow], fun hb => ?_⟩
      simp at hb
      subst hb
      simp [Instr.sameBits]
    · cases hk
  · rename_i hd; cases hd; cases hx; cases hy; cases hk
    refine ⟨by simp only [Instr.sameNow, beq_toListBytes, mk_toList], fun hb => ?_⟩
    simp at hb
    subst hb
    simp only [Instr.sameBits, beq_toListBytes, beq_self_eq_true]
  · rename_i hd; cases hd; cases hx; cases hy; cases hk
    refine ⟨by simp [Instr.sameNow], fun hb => ?_⟩
    simp at hb
    subst hb
    simp [Instr.sameBits]
  · cases hk

/-- What the search in a map comes to. -/
theorem find_sound {N : Nat → Prop} {d : TypeDesc} {k : AV} {k' : Value} (hk : VR N φ k k') : ∀ (es : List (AV × AV × Nat)) (es' : List MapEntry) (i : Nat) (r : Option (Nat × AV × Nat)), afind (some d) k es i = some r → EntsR N φ es es' →
    (r = none ∧ Instr.findNow d k' es' i = some none) ∨ (∃ j v b e, r = some (i + j, v, b) ∧ Instr.findNow d k' es' i = some (some (i + j, e.val)) ∧ es'[j]? = some e ∧ VR N φ v e.val ∧ b = e.born ∧ (∃ ka, es[j]? = some (ka, v, b)) ∧ Instr.sameBits 10000 e.key k' = true)
  | [], [], i, r, hf, _ => by simp only [afind] at hf; cases hf; exact .inl ⟨rfl, rfl⟩
  | (ka, v, b) :: es, e :: es', i, r, hf, hr => by
    obtain ⟨h1, h2, h3⟩ := hr.2 0 _ _ rfl rfl
    simp only [afind] at hf
    split at hf
    · rename_i hq
      cases hf
      obtain ⟨s1, s2⟩ := key_sound hq hk h1
      exact .inr ⟨0, v, b, e, rfl, by simp [Instr.findNow, s1], rfl, h2, h3, ⟨ka, rfl⟩, s2 rfl⟩
    · rename_i hq
      obtain ⟨s1, _⟩ := key_sound hq hk h1
      rcases find_sound hk es es' (i + 1) r hf hr.tail with ⟨q1, q2⟩ | ⟨j, v', b', e', q1, q2, q3, q4, q5, ⟨ka', q6⟩, q7⟩
      · exact .inl ⟨q1, by simp [Instr.findNow, s1, q2]⟩
      · refine .inr ⟨j + 1, v', b', e', by rw [q1]; congr 2; omega, ?_, by simpa using q3, q4, q5, ⟨ka', by simpa using q6⟩, q7⟩
        simp only [Instr.findNow, s1, q2]
        congr 3; omega
    · cases hf
  | [], _ :: _, _, _, _, hr => by have := hr.1; simp at this
  | _ :: _, [], _, _, _, hr => by have := hr.1; simp at this

theorem checkKey_ok {N : Nat → Prop} {kt : TypeId} {k : AV} {k' : Value} (ho : akeyOk (P.underlying kt) k = true) (hk : VR N φ k k') (empty : Bool) (w : World) :
    (Instr.checkKey empty 10000 kt k').run P w = .ok () w ∧ ∃ d, P.underlying kt = some d := by
  have e : ∀ v, Instr.checkKey empty 10000 kt v = Instr.checkKey empty (9999 + 1) kt v := fun _ => rfl
  rw [e]
  unfold akeyOk at ho
  split at ho
  · rename_i hu; cases hk; exact ⟨by rw [Instr.checkKey]; simp only [Sem.run_bind, run_underlying hu, Result.andThen_ok]; rfl, _, hu⟩
  · rename_i hu; cases hk; exact ⟨by rw [Instr.checkKey]; simp only [Sem.run_bind, run_underlying hu, Result.andThen_ok]; rfl, _, hu⟩
  · rename_i hu; cases hk; exact ⟨by rw [Instr.checkKey]; simp only [Sem.run_bind, run_underlying hu, Result.andThen_ok]; rfl, _, hu⟩
  · cases ho

theorem mapOf_some {t kt et : TypeId} (hm : mapOf P t = some (kt, et)) : P.underlying t = some (.map kt et) := by
  unfold mapOf at hm
  split at hm
  · rename_i hu; cases hm; exact hu
  · cases hm

theorem findKey_run {kt : TypeId} {d : TypeDesc} (hu : P.underlying kt = some d) {k' : Value} {es : List MapEntry} {r : Option (Nat × Value)} (hf : Instr.findNow d k' es 0 = some r) (w : World) :
    (Instr.findKey kt k' es).run P w = .ok r w := by
  simp [Instr.findKey, run_underlying hu, hf]

theorem lookup_sound (r : Rel B φ h w) {t : TypeId} {m k v : AV} {m' k' : Value} {ok : Bool} (hl : alookup P t m k ok h = some v) (hm : VR h.ok φ m m') (hk : VR h.ok φ k k') :
    ∃ v', (Instr.lookup t m' k' ok).run P w = .ok v' w ∧ VR h.ok φ v v' := by
  unfold alookup at hl
  split at hl
  rotate_left
  · cases hl
  rename_i kt et es hmt hes
  have hut := mapOf_some hmt
  split at hl
  rotate_left
  · cases hl
  rename_i hok
  obtain ⟨es', hget, hents⟩ : ∃ es' : Array MapEntry, ((match m' with | .map none => pure #[] | .map (some r) => (do match (← getObj r) with | .map es _ => pure es | _ => stuck "Lookup: map expected") | _ => stuck "Lookup: map expected" : Sem (Array MapEntry)).run P w = .ok es' w) ∧ EntsR h.ok φ es es'.toList := by
    unfold amapGet at hes
    split at hes
    · cases hm; cases hes; exact ⟨#[], rfl, rfl, fun i a e ha _ => by simp at ha⟩
    · rename_i id
      cases hm
      split at hes
      · rename_i es0 clock hg
        cases hes
        obtain ⟨es', h1, h2, h3⟩ := r.obj id _ hg
        have hgo := run_getObj (P := P) h1 (fun _ _ _ => by simp)
        exact ⟨es', by simp [hgo], by simpa using h2, fun i a e ha he => h3 i a e ha (by simpa using he)⟩
      · cases hes
    · cases hes
  obtain ⟨hck, d, hud⟩ := checkKey_ok (P := P) hok hk es'.isEmpty w
  rw [hud] at hl
  have fin : ∀ (q : Option (Nat × Value)) (z : Value), (Instr.findKey kt k' es'.toList).run P w = .ok q w → (match q with | some (_, v) => z = (if ok then .tuple #[v, .bool true] else v) | none => ∃ zv, (zeroValue et).run P w = .ok zv w ∧ z = (if ok then .tuple #[zv, .bool false] else zv)) →
      (Instr.lookup t m' k' ok).run P w = .ok z w := by
    intro q z hq hz
    unfold Instr.lookup
    simp only [Sem.run_bind, run_underlying hut, Result.andThen_ok]
    cases m' with
    | map mr =>
      cases mr with
      | none =>
        simp only [Sem.run_pure, Sem.run_bind, Result.andThen_ok] at hget ⊢
        cases hget
        rw [hck]
        simp only [Result.andThen_ok, hq]
        cases q with
        | some p => obtain ⟨i, v⟩ := p; simp only at hz; subst hz; cases ok <;> rfl
        | none => obtain ⟨zv, hzv, rfl⟩ := hz; simp only [Sem.run_bind, hzv, Result.andThen_ok, Sem.run_pure]
      | some b =>
        simp only [Sem.run_bind] at hget ⊢
        cases hgo : (getObj b).run P w with
        | halt x w1 => rw [hgo] at hget; cases hget
        | ok o w1 =>
          rw [hgo] at hget
          simp only [Result.andThen_ok] at hget ⊢
          cases o with
          | map e0 c0 =>
            simp only [Sem.run_pure, Sem.run_bind, Result.andThen_ok] at hget ⊢
            cases hget
            rw [hck]
            simp only [Result.andThen_ok, hq]
            cases q with
            | some p => obtain ⟨i, v⟩ := p; simp only at hz; subst hz; cases ok <;> rfl
            | none => obtain ⟨zv, hzv, rfl⟩ := hz; simp only [Sem.run_bind, hzv, Result.andThen_ok, Sem.run_pure]
          | _ => cases hget
    | _ => cases hget
  split at hl
  · rename_i j v0 b0 hf
    cases hl
    rcases find_sound hk es es'.toList 0 _ hf hents with ⟨q1, _⟩ | ⟨j', v', b', e', q1, q2, q3, q4, q5, _, _⟩
    · cases q1
    · cases q1
      refine ⟨_, fin _ _ (findKey_run hud q2 w) rfl, ?_⟩
      cases ok
      · exact q4
      · exact VR.tups (VRs.cons q4 (VRs.cons (.bool true) (VRs.nil _ _)))
  · rename_i hf
    rcases find_sound hk es es'.toList 0 _ hf hents with ⟨_, q2⟩ | ⟨j', v', b', e', q1, _⟩
    · cases hz : zeroOf P et with
      | none => simp [hz] at hl
      | some z =>
        simp [hz] at hl
        subst hl
        obtain ⟨z', rfl, hz'⟩ := run_zeroValue' hz w
        refine ⟨_, fin none _ (findKey_run hud q2 w) ⟨z', hz', rfl⟩, ?_⟩
        cases ok
        · exact VR.ofValue _ _ z'
        · exact VR.tups (VRs.cons (VR.ofValue _ _ z') (VRs.cons (.bool false) (VRs.nil _ _)))
    · cases q1
  · cases hl

theorem EntsR.set {N : Nat → Prop} {es : List (AV × AV × Nat)} {es' : Array MapEntry} (hr : EntsR N φ es es'.toList) {i : Nat} {k v : AV} {b : Nat} (f : MapEntry → MapEntry) {e : MapEntry} (he : es'[i]? = some e) (hn : EntR N φ (k, v, b) (f e)) :
    EntsR N φ (es.set i (k, v, b)) (es'.modify i f).toList := by
  refine ⟨by simp [hr.1], fun j a x ha hx => ?_⟩
  rw [Array.getElem?_toList, Array.getElem?_modify] at hx
  rw [List.getElem?_set] at ha
  by_cases hij : i = j
  · subst hij
    rw [if_pos rfl, he] at hx
    simp only [if_true] at ha
    split at ha
    · cases ha; cases hx; exact hn
    · cases ha
  · rw [if_neg hij] at hx ha
    exact hr.2 j a x ha (by simpa using hx)

theorem EntsR.push {N : Nat → Prop} {es : List (AV × AV × Nat)} {es' : Array MapEntry} (hr : EntsR N φ es es'.toList) {a : AV × AV × Nat} {e : MapEntry} (hn : EntR N φ a e) : EntsR N φ (es ++ [a]) (es'.push e).toList := by
  have hl := hr.1
  refine ⟨by simp [hl], fun j b x hb hx => ?_⟩
  rw [Array.toList_push] at hx
  rw [List.getElem?_append] at hb hx
  split at hb
  · rename_i hj; rw [if_pos (by omega)] at hx; exact hr.2 j b x hb hx
  · rename_i hj
    rw [if_neg (by omega), ← hl] at hx
    cases hjj : j - es.length with
    | zero => rw [hjj] at hb hx; cases hb; cases hx; exact hn
    | succ q => rw [hjj] at hb; simp at hb

theorem keyStays_run {old new : Value} (hs : Instr.sameBits 10000 old new = true) (w : World) : (Instr.keyThatStays old new).run P w = .ok new w := by
  simp [Instr.keyThatStays, hs]

theorem ObjR.ofEnts {N : Nat → Prop} {l : Loc} {es : List (AV × AV × Nat)} {es' : Array MapEntry} {clock : Nat} (hr : EntsR N φ es es'.toList) : ObjR N φ l (.map es clock) (some (.map es' clock)) :=
  ⟨es', rfl, by simpa using hr.1, fun i a e ha he => hr.2 i a e ha (by simpa using he)⟩

theorem mapUpdate_sound (r : Rel B φ h w) {t : TypeId} {m k v : AV} {m' k' v' : Value} {h' : AH} (hl : amapUpdate P t m k v h = some h') (hm : VR h.ok φ m m') (hk : VR h.ok φ k k') (hv : VR h.ok φ v v') :
    ∃ w', (Instr.mapUpdate t m' k' v').run P w = .ok () w' ∧ Res B φ h w .undef h' Go.undef w' := by
  unfold amapUpdate at hl
  split at hl
  rotate_left
  · cases hl
  rename_i kt et id hmt
  have hut := mapOf_some hmt
  cases hm with
  | map _ hid =>
    split at hl
    rotate_left
    · cases hl
    rename_i es clock hg
    split at hl
    rotate_left
    · cases hl
    rename_i hok
    obtain ⟨es', h1, h2, h3⟩ := r.obj id _ hg
    have hents : EntsR h.ok φ es es'.toList := ⟨by simpa using h2, fun i a e ha he => h3 i a e ha (by simpa using he)⟩
    have hgo := run_getObj (P := P) h1 (fun _ _ _ => by simp)
    obtain ⟨hck, d, hud⟩ := checkKey_ok (P := P) hok hk false w
    rw [hud] at hl
    split at hl
    · rename_i j v0 b0 hf
      cases hl
      rcases find_sound hk es es'.toList 0 _ hf hents with ⟨q1, _⟩ | ⟨j', v1, b', e', q1, q2, q3, q4, q5, ⟨ka, q6⟩, q7⟩
      · cases q1
      · cases q1
        simp only [Nat.zero_add] at q2 ⊢
        obtain ⟨w', hset, ht, hw'⟩ := run_setObj (P := P) (o := .map (es'.modify j' fun e => { e with key := k', val := v' }) clock) h1 (fun _ _ _ => by simp)
        have he' : es'[j']? = some e' := by simpa using q3
        have hse : setEntry es j' k v = es.set j' (k, v, b0) := by simp [setEntry, q6]
        obtain ⟨r', s'⟩ := r.update hg rfl ht (.map (setEntry es j' k v) clock) (by
          rw [hw', hse]
          exact ObjR.ofEnts (hents.set (fun e => { e with key := k', val := v' }) he' ⟨hk, hv, q5⟩))
        refine ⟨w', ?_, Res.undef r' s'⟩
        unfold Instr.mapUpdate
        simp only [Sem.run_bind, run_underlying hut, Result.andThen_ok, hgo]
        rw [hck]
        simp only [Result.andThen_ok, findKey_run hud q2 w, Sem.run_bind, he', Option.map_some, Option.getD_some, keyStays_run q7, hset]
    · rename_i hf
      cases hl
      rcases find_sound hk es es'.toList 0 _ hf hents with ⟨_, q2⟩ | ⟨j', v1, b', e', q1, _⟩
      · obtain ⟨w', hset, ht, hw'⟩ := run_setObj (P := P) (o := .map (es'.push { key := k', val := v', born := clock }) (clock + 1)) h1 (fun _ _ _ => by simp)
        obtain ⟨r', s'⟩ := r.update hg rfl ht (.map (es ++ [(k, v, clock)]) (clock + 1)) (by
          rw [hw']
          exact ObjR.ofEnts (hents.push ⟨hk, hv, rfl⟩))
        refine ⟨w', ?_, Res.undef r' s'⟩
        unfold Instr.mapUpdate
        simp only [Sem.run_bind, run_underlying hut, Result.andThen_ok, hgo]
        rw [hck]
        simp only [Result.andThen_ok, findKey_run hud q2 w, Sem.run_bind, hset]
      · cases q1
    · cases hl

theorem mapEntry_sound (r : Rel B φ h w) {t : TypeId} {m k v : AV} {m' k' : Value} {h' : AH} (hl : amapEntry P t m k h = some (v, h')) (hm : VR h.ok φ m m') (hk : VR h.ok φ k k') :
    ∃ v' w', (Instr.mapEntry t m' k').run P w = .ok v' w' ∧ Res B φ h w v h' v' w' := by
  unfold amapEntry at hl
  split at hl
  rotate_left
  · cases hl
  rename_i kt et id hmt
  have hut := mapOf_some hmt
  cases hm with
  | map _ hid =>
    split at hl
    rotate_left
    · cases hl
    rename_i es clock hg
    split at hl
    rotate_left
    · cases hl
    rename_i hok
    obtain ⟨es', h1, h2, h3⟩ := r.obj id _ hg
    have hents : EntsR h.ok φ es es'.toList := ⟨by simpa using h2, fun i a e ha he => h3 i a e ha (by simpa using he)⟩
    have hgo := run_getObj (P := P) h1 (fun _ _ _ => by simp)
    obtain ⟨hck, d, hud⟩ := checkKey_ok (P := P) hok hk false w
    rw [hud] at hl
    split at hl
    · rename_i j v0 b0 hf
      cases hl
      rcases find_sound hk es es'.toList 0 _ hf hents with ⟨q1, _⟩ | ⟨j', v1, b', e', q1, q2, q3, q4, q5, ⟨ka, q6⟩, q7⟩
      · cases q1
      · cases q1
        simp only [Nat.zero_add] at q2 ⊢
        obtain ⟨w', hset, ht, hw'⟩ := run_setObj (P := P) (o := .map (es'.modify j' fun e => { e with key := k' }) clock) h1 (fun _ _ _ => by simp)
        have he' : es'[j']? = some e' := by simpa using q3
        have hse : setEntry es j' k v0 = es.set j' (k, v0, b0) := by simp [setEntry, q6]
        obtain ⟨r', s'⟩ := r.update hg rfl ht (.map (setEntry es j' k v0) clock) (by
          rw [hw', hse]
          exact ObjR.ofEnts (hents.set (fun e => { e with key := k' }) he' ⟨hk, q4, q5⟩))
        refine ⟨.tuple #[e'.val, .int .i64 e'.born], w', ?_, φ, ?_, r', s'⟩
        · unfold Instr.mapEntry
          simp only [Sem.run_bind, run_underlying hut, Result.andThen_ok, hgo]
          rw [hck]
          simp only [Result.andThen_ok, findKey_run hud q2 w, Sem.run_bind, he', Option.map_some, Option.getD_some, keyStays_run q7, hset, Sem.run_pure]
          rfl
        · rw [q5]
          exact VR.tups (VRs.cons (q4.mono s'.okm fun _ _ => rfl) (VRs.cons (.int _ _) (VRs.nil _ _)))
    · rename_i hf
      split at hl
      rotate_left
      · cases hl
      rename_i z hz
      cases hl
      obtain ⟨z', rfl, hz'⟩ := run_zeroValue' hz w
      rcases find_sound hk es es'.toList 0 _ hf hents with ⟨_, q2⟩ | ⟨j', v1, b', e', q1, _⟩
      · obtain ⟨w', hset, ht, hw'⟩ := run_setObj (P := P) (o := .map (es'.push { key := k', val := z', born := clock }) (clock + 1)) h1 (fun _ _ _ => by simp)
        obtain ⟨r', s'⟩ := r.update hg rfl ht (.map (es ++ [(k, ofValue z', clock)]) (clock + 1)) (by
          rw [hw']
          exact ObjR.ofEnts (hents.push ⟨hk, VR.ofValue _ _ z', rfl⟩))
        refine ⟨.tuple #[z', .int .i64 clock], w', ?_, φ, ?_, r', s'⟩
        · unfold Instr.mapEntry
          simp only [Sem.run_bind, run_underlying hut, Result.andThen_ok, hgo]
          rw [hck]
          simp only [Result.andThen_ok, findKey_run hud q2 w, Sem.run_bind, hz', hset, Sem.run_pure]
          rfl
        · exact VR.tups (VRs.cons (VR.ofValue _ _ z') (VRs.cons (.int _ _) (VRs.nil _ _)))
      · cases q1
    · cases hl

theorem findIdx_list (es : Array MapEntry) (p : MapEntry → Bool) : es.findIdx? p = es.toList.findIdx? p := by
  obtain ⟨l⟩ := es
  simp

theorem born_sound {N : Nat → Prop} {n : Int} : ∀ (es : List (AV × AV × Nat)) (es' : List MapEntry) (i j : Nat), bornAt n es i = some j → EntsR N φ es es' → i ≤ j ∧ es'.findIdx? (fun e => (e.born : Int) == n) = some (j - i)
  | [], _, i, j, hb, _ => by simp [bornAt] at hb
  | (k, v, b) :: es, e :: es', i, j, hb, hr => by
    obtain ⟨_, _, h3⟩ := hr.2 0 _ _ rfl rfl
    simp only at h3
    subst h3
    simp only [bornAt] at hb
    split at hb
    · rename_i hq
      cases hb
      exact ⟨Nat.le_refl _, by simp [List.findIdx?_cons, hq]⟩
    · rename_i hq
      obtain ⟨q1, q2⟩ := born_sound es es' (i + 1) j hb hr.tail
      refine ⟨by omega, ?_⟩
      rw [List.findIdx?_cons, if_neg hq, q2]
      simp; omega
  | _ :: _, [], _, _, _, hr => by have := hr.1; simp at this

theorem entryStore_sound (r : Rel B φ h w) {t : TypeId} {m s v : AV} {m' s' v' : Value} {h' : AH} (hl : aentryStore m s v h = some h') (hm : VR h.ok φ m m') (hs : VR h.ok φ s s') (hv : VR h.ok φ v v') :
    ∃ w', (Instr.entryStore t m' s' v').run P w = .ok () w' ∧ Res B φ h w .undef h' Go.undef w' := by
  unfold aentryStore at hl
  split at hl
  rotate_left
  · cases hl
  rename_i id k n
  cases hs
  cases hm with
  | map _ hid =>
    split at hl
    rotate_left
    · cases hl
    rename_i es clock hg
    split at hl
    rotate_left
    · cases hl
    rename_i i hi
    split at hl
    rotate_left
    · cases hl
    rename_i ka va b hei
    cases hl
    obtain ⟨es', h1, h2, h3⟩ := r.obj id _ hg
    have hents : EntsR h.ok φ es es'.toList := ⟨by simpa using h2, fun i a e ha he => h3 i a e ha (by simpa using he)⟩
    have hgo := run_getObj (P := P) h1 (fun _ _ _ => by simp)
    obtain ⟨_, hb⟩ := born_sound es es'.toList 0 i hi hents
    rw [Nat.sub_zero] at hb
    have hb' : es'.findIdx? (fun e => (e.born : Int) == n) = some i := by rw [← hb, findIdx_list]
    have hlt : i < es'.size := by
      have h0 : i < es.length := by
        rcases Nat.lt_or_ge i es.length with h' | h'
        · exact h'
        · rw [List.getElem?_eq_none h'] at hei; cases hei
      omega
    have hge : es'[i]? = some es'[i] := Array.getElem?_eq_getElem hlt
    obtain ⟨g1, g2, g3⟩ := h3 i _ _ hei hge
    obtain ⟨w', hset, ht, hw'⟩ := run_setObj (P := P) (o := .map (es'.modify i fun e => { e with val := v' }) clock) h1 (fun _ _ _ => by simp)
    obtain ⟨r', s'⟩ := r.update hg rfl ht (.map (es.set i (ka, v, b)) clock) (by
      rw [hw']
      exact ObjR.ofEnts (hents.set (fun e => { e with val := v' }) hge ⟨g1, hv, g3⟩))
    refine ⟨w', ?_, Res.undef r' s'⟩
    unfold Instr.entryStore
    simp only [Sem.run_bind, Sem.run_pure, Result.andThen_ok, hgo, asInt, asIntOf, hb', hset]

theorem len_sound (r : Rel B φ h w) {at_ : Array TypeId} {ty t : TypeId} {x v : AV} {x' : Value} (h0 : at_[0]? = some t) (hl : alenOf P t x h = some v) (hx : VR h.ok φ x x') :
    ∃ v', (Builtin.len_ at_ ty #[x']).run P w = .ok v' w ∧ VR h.ok φ v v' := by
  unfold alenOf at hl
  split at hl
  · rename_i l hu
    cases hx; cases hl
    refine ⟨_, ?_, .int _ _⟩
    simp [Builtin.len_, h0, run_underlying hu, goInt]
    rfl
  · rename_i n e hu
    cases hl
    exact ⟨_, by simp [Builtin.len_, h0, run_underlying hu, goInt], .int _ _⟩
  · rename_i e id off n sz hu
    cases hx; cases hl
    exact ⟨_, by simp [Builtin.len_, h0, run_underlying hu, goInt], .int _ _⟩
  · rename_i e n c hu
    cases hx; cases hl
    exact ⟨_, by simp [Builtin.len_, h0, run_underlying hu, goInt], .int _ _⟩
  · rename_i k e hu
    unfold amaplen amapGet at hl
    split at hl
    · cases hx
      simp at hl
      subst hl
      exact ⟨_, by simp [Builtin.len_, h0, run_underlying hu, goInt], .int _ _⟩
    · rename_i id
      cases hx
      split at hl
      · rename_i es clock hg
        simp at hl
        subst hl
        obtain ⟨es', h1, h2, h3⟩ := r.obj id _ hg
        have hgo := run_getObj (P := P) h1 (fun _ _ _ => by simp)
        exact ⟨_, by simp [Builtin.len_, h0, run_underlying hu, goInt, hgo, h2], .int _ _⟩
      · simp at hl
    · simp at hl
  · rename_i a hu
    split at hl
    · rename_i n e hu'
      cases hl
      exact ⟨_, by simp [Builtin.len_, h0, run_underlying hu, run_underlying hu', goInt], .int _ _⟩
    · cases hl
  · cases hl

end Go.Proofs.YtobhmahlenjheaaM
