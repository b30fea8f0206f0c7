/- The value machine's run of code is the abstract machine's; functions whose plain twin it is. -/
import Derived.Test.YtlpiiifmidehjaaDoorV16
set_option linter.unusedSimpArgs false
set_option linter.unusedVariables false
namespace Go.Proofs.YtlpiiifmidehjaaDoorM
open Go Go.RowKit

def Pre (p : Nat) (H H' : List AV) : Prop := ∀ (k : Nat) (x : AV), k < p → H[k]? = some x → H'[k]? = some x
theorem Pre.refl (p : Nat) (H : List AV) : Pre p H H := fun _ _ _ h => h
theorem Pre.trans {p : Nat} {A B C : List AV} (h : Pre p A B) (k : Pre p B C) : Pre p A C := fun i x hi hx => k i x hi (h i x hi hx)
theorem Hpre.pre {p : Nat} {H H' : List AV} (h : Hpre H H') : Pre p H H' := fun k x _ hx => h k x hx

section
variable {R : Type} {cx : VCx} {g g' : FM} {H H' : List AV} {env : List AV} {h h0 h' : AH} {X : List Nat} {S : VS} {cf : CallF} {D : Array Oper → List AV → AH → Option (List AV × AH)} {fuel p : Nat}

/-- What a run of code comes to. -/
def WentC (h0 : AH) (X : List Nat) (p : Nat) (g : FM) (H : List AV) (c : Code) (env : List AV) (res : ARes) (K : AX → VS → Option R) (r : R) : Prop :=
  ∃ x env' h' g' H' S', res = some (x, env', h') ∧ g.le g' ∧ Pre p H H' ∧ VMem h0 X g' H' S'.os h' ∧ EnvR g' H' S'.ts env' ∧ K x S' = some r ∧ ∀ t, (wCode c).testBit t = false → env'[t]? = env[t]?

theorem carM_ok {W : Nat} : ∀ {l : List SV} {i t : Nat}, (carM i W l).testBit t = true → ∃ k s, t = i + k ∧ l[k]? = some s ∧ s.carry = true ∧ W.testBit t = false
  | [], i, t, h => by simp [carM] at h
  | s :: l, i, t, h => by
    simp only [carM, Nat.testBit_or, Bool.or_eq_true] at h
    rcases h with h | h
    · obtain ⟨k, s', rfl, h1, h2, h3⟩ := carM_ok h
      exact ⟨k + 1, s', by omega, by simpa using h1, h2, h3⟩
    · split at h
      · rename_i hc
        rw [Nat.testBit_two_pow] at h
        have : i = t := by simpa using h
        subst this
        exact ⟨0, s, rfl, rfl, hc.2, hc.1⟩
      · simp at h
theorem overT_len : ∀ {l l' : List SV} {i C : Nat}, (overT i C l l').length = l'.length
  | [], l', i, C => by simp [overT]
  | s :: l, [], i, C => by simp [overT]
  | s :: l, s' :: l', i, C => by simp [overT, overT_len (l := l)]
theorem overT_at : ∀ {l l' : List SV} {i C k : Nat} {x : SV}, (overT i C l l')[k]? = some x → (C.testBit (i + k) = true ∧ l[k]? = some x) ∨ l'[k]? = some x
  | [], l', i, C, k, x, h => .inr (by simpa [overT] using h)
  | s :: l, [], i, C, k, x, h => by simp [overT] at h
  | s :: l, s' :: l', i, C, k, x, h => by
    simp only [overT] at h
    cases k with
    | zero =>
      simp only [List.getElem?_cons_zero, Option.some.injEq] at h
      split at h
      · rename_i hc; exact .inl ⟨by simpa using hc, by simpa using h⟩
      · exact .inr (by simpa using h)
    | succ k =>
      rcases overT_at (by simpa using h) with ⟨h1, h2⟩ | h1
      · exact .inl ⟨by rw [show i + (k + 1) = i + 1 + k by omega]; exact h1, by simpa using h2⟩
      · exact .inr (by simpa using h1)
theorem SV.carry_ok {s : SV} (hs : s.carry = true) (hg : g.le g') {l : List AV} (h : SVL g H s l) : SVL g' H' s l := by
  cases s <;> first | (cases hs; done) | skip
  · exact h
  · exact h
  · obtain ⟨x, rfl, h⟩ := h; exact ⟨x, rfl, h.mono hg⟩
  · rcases h with ⟨id, off, c, h1, h2, h3, h4⟩ | ⟨id, off, c, h1, h2, h3, h4⟩
    · exact .inl ⟨id, off, c, h1, hg.c _ _ h2, h3, h4.mono hg⟩
    · exact .inr ⟨id, off, c, h1, hg.v _ _ h2, h3, h4.mono hg⟩
  · obtain ⟨h1, xs, h2, h3⟩ := h; exact ⟨h1, xs, hg.v _ _ h2, h3.mono fun c v => RepC.mono hg⟩
theorem over_env {W : Nat} {S' : VS} {env' : List AV} (E : EnvR g H S.ts env) (E' : EnvR g' H' S'.ts env') (hg : g.le g') (hk : ∀ t, W.testBit t = false → env'[t]? = env[t]?) : EnvR g' H' (S.over (carM 0 W S.ts) S').ts env' := by
  refine ⟨by rw [E'.len]; exact overT_len.symm, fun d s x h1 h2 => ?_⟩
  rcases overT_at h1 with ⟨h3, h4⟩ | h3
  · obtain ⟨k, s', e, h5, h6, h7⟩ := carM_ok h3
    have : k = d := by omega
    subst this
    rw [h4] at h5
    cases h5
    rw [Nat.zero_add] at h7
    have h8 := hk k h7
    rw [h2] at h8
    exact SV.carry_ok h6 hg (E.get k s x h4 h8.symm)
  · exact E'.get d s x h3 h2

theorem axEq_ok {a b : AX} (h : axEq a b = true) : a = b := by
  cases a <;> cases b <;> first | rfl | (cases h; done) | skip
  simp only [axEq, beq_iff_eq] at h; rw [h]

theorem packOut_ok : ∀ {l : List (AX × Sh)} {x : AX} {S : VS} {o : OutD l}, packOut p l x S = some o → VMem h0 X g H S.os h → EnvR g H S.ts env →
    ∃ g' H' S', g.le g' ∧ Pre p H H' ∧ VMem h0 X g' H' S'.os h ∧ EnvR g' H' S'.ts env ∧ ∀ {R : Type} (K : AX → VS → Option R), unpOut l o K = K x S'
  | [], _, _, _, hp, _, _ => by cases hp
  | [a], x, S, o, hp, M, E => by
    unfold packOut at hp
    split at hp
    · rename_i hx
      obtain rfl := axEq_ok hx
      obtain ⟨g', H', h1, h2, h3, h4⟩ := fit_ok hp M E
      exact ⟨g', H', a.2.unp o, h1, h2, h3, h4, fun K => rfl⟩
    · cases hp
  | a :: b :: l, x, S, o, hp, M, E => by
    unfold packOut at hp
    split at hp
    · rename_i hx
      obtain rfl := axEq_ok hx
      obtain ⟨q, hq, rfl⟩ := Option.map_eq_some_iff.1 hp
      obtain ⟨g', H', h1, h2, h3, h4⟩ := fit_ok hq M E
      exact ⟨g', H', a.2.unp q, h1, h2, h3, h4, fun K => rfl⟩
    · obtain ⟨q, hq, rfl⟩ := Option.map_eq_some_iff.1 hp
      obtain ⟨g', H', S', h1, h2, h3, h4, h5⟩ := packOut_ok hq M E
      exact ⟨g', H', S', h1, h2, h3, h4, fun K => h5 K⟩

structure Sound (cx : VCx) (cf : CallF) (D : Array Oper → List AV → AH → Option (List AV × AH)) : Prop where
  ents : ∀ e ∈ cx.es, SoundE cx.gl cf e
  drawn : ∀ ops env h, dOK cx.P (tabOf (Kof cx.pu)) ops = true → ∃ cf', (∀ e ∈ cx.es, SoundE cx.gl cf' e) ∧ D ops env h = aops cx.P cf' ops ops.toList env h

theorem vcode_ok (hS : Sound cx cf D) (hf : NF ≤ fuel) : ∀ {c : Code} {A : Ann} {R : Type} {S : VS} {K : AX → VS → Option R} {r : R} {g : FM} {H : List AV} {env : List AV} {h : AH}, GOK g cx.gl → VMem h0 X g H S.os h → EnvR g H S.ts env → vcode cx p c A S K = some r →
    WentC h0 X p g H c env (acode cx.P cf D fuel c env h) K r := by
  intro c
  induction c with
  | region id ops d =>
    intro A R S K r g H env h hG M E hk
    simp only [vcode] at hk
    split at hk
    · rename_i hd
      have fin : ∀ {cf' : CallF}, (∀ e ∈ cx.es, SoundE cx.gl cf' e) → acode cx.P cf D fuel (.region id ops d) env h = (aops cx.P cf' ops ops.toList env h).map (fun r => (.normal, r.1, r.2)) → WentC h0 X p g H (.region id ops d) env (acode cx.P cf D fuel (.region id ops d) env h) K r := fun {cf'} hs he => by
        obtain ⟨env', h', g', H', S', q1, q2, q3, q4, q5, q6, q7⟩ := vops_ok (m := mdR) rfl hs hG M E hk
        exact ⟨.normal, env', h', g', H', S', by rw [he, q1]; rfl, q2, q3.pre, q4, q5, q6, q7⟩
      cases d with
      | false => exact fin hS.ents (by simp only [acode])
      | true =>
        rcases hd with hd | hd
        · cases hd
        · obtain ⟨cf', h1, h2⟩ := hS.drawn ops env h hd
          exact fin h1 (by simp only [acode, h2])
    · cases hk
  | seq a b iha ihb =>
    intro A R S K r g H env h hG M E hk
    simp only [vcode] at hk
    have wor : ∀ {t : Nat}, (wCode (.seq a b)).testBit t = false → (wCode a).testBit t = false ∧ (wCode b).testBit t = false := fun {t} ht => by
      simpa [wCode, Nat.testBit_or] using ht
    have step : ∀ {x : AX} {env' : List AV} {h' : AH} {g' : FM} {H' : List AV} {S' : VS}, acode cx.P cf D fuel a env h = some (x, env', h') → g.le g' → Pre p H H' → VMem h0 X g' H' S'.os h' → EnvR g' H' S'.ts env' → (∀ t, (wCode a).testBit t = false → env'[t]? = env[t]?) →
        (match x with | .normal => vcode cx p b A.snd S' K | y => K y S') = some r → WentC h0 X p g H (.seq a b) env (acode cx.P cf D fuel (.seq a b) env h) K r := fun {x env' h' g' H' S'} e1 e2 e3 e4 e5 e7 e6 => by
      cases x with
      | normal =>
        obtain ⟨y, env2, h2, g2, H2, S2, q1, q2, q3, q4, q5, q6, q7⟩ := ihb (hG.mono e2) e4 e5 e6
        exact ⟨y, env2, h2, g2, H2, S2, by simp only [acode, e1, q1], e2.trans q2, e3.trans q3, q4, q5, q6, fun t ht => by rw [q7 t (wor ht).2, e7 t (wor ht).1]⟩
      | exit i => exact ⟨.exit i, env', h', g', H', S', by simp only [acode, e1], e2, e3, e4, e5, e6, fun t ht => e7 t (wor ht).1⟩
      | ret => exact ⟨.ret, env', h', g', H', S', by simp only [acode, e1], e2, e3, e4, e5, e6, fun t ht => e7 t (wor ht).1⟩
    split at hk
    · simp only [fOuts_eq] at hk
      obtain ⟨o, ho, hk⟩ := obind hk
      obtain ⟨x, env', h', g', H', S', q1, q2, q3, q4, q5, q6, q7⟩ := iha hG M E ho
      obtain ⟨g2, H2, S2, k1, k2, k3, k4, k5⟩ := packOut_ok q6 q4 q5
      rw [k5] at hk
      simp only [fVS_eq] at hk
      exact step (S' := S.over (carM 0 (wCode a) S.ts) S2) q1 (q2.trans k1) (q3.trans k2) k3 (over_env E k4 (q2.trans k1) q7) q7 hk
    · obtain ⟨x, env', h', g', H', S', q1, q2, q3, q4, q5, q6, q7⟩ := iha hG M E hk
      exact step q1 q2 q3 q4 q5 q7 q6
  | cond c a b iha ihb =>
    intro A R S K r g H env h hG M E hk
    simp only [vcode] at hk
    have hc := evS_ok hG E c
    have wor : ∀ {t : Nat}, (wCode (.cond c a b)).testBit t = false → (wCode a).testBit t = false ∧ (wCode b).testBit t = false := fun {t} ht => by
      simpa [wCode, Nat.testBit_or] using ht
    split at hk
    · rename_i hs
      rw [hs] at hc
      obtain ⟨x, env', h', g', H', S', q1, q2, q3, q4, q5, q6, q7⟩ := iha hG M E hk
      exact ⟨x, env', h', g', H', S', by simp only [acode, kbR hc]; exact q1, q2, q3, q4, q5, q6, fun t ht => q7 t (wor ht).1⟩
    · rename_i hs
      rw [hs] at hc
      obtain ⟨x, env', h', g', H', S', q1, q2, q3, q4, q5, q6, q7⟩ := ihb hG M E hk
      exact ⟨x, env', h', g', H', S', by simp only [acode, kbR hc]; exact q1, q2, q3, q4, q5, q6, fun t ht => q7 t (wor ht).2⟩
    · rename_i v hs
      rw [hs] at hc
      have hv := pvB hc
      rcases vcond_ok rfl hk with ⟨hb, hq⟩ | ⟨hb, hq⟩ <;> subst hb
      · obtain ⟨E', e⟩ := turn_env (S := S) E hv
        obtain ⟨x, env', h', g', H', S', q1, q2, q3, q4, q5, q6, q7⟩ := iha hG (S := S.turn c true) (by rw [e]; exact M) E' hq
        exact ⟨x, env', h', g', H', S', by simp only [acode, hv]; exact q1, q2, q3, q4, q5, q6, fun t ht => q7 t (wor ht).1⟩
      · obtain ⟨E', e⟩ := turn_env (S := S) E hv
        obtain ⟨x, env', h', g', H', S', q1, q2, q3, q4, q5, q6, q7⟩ := ihb hG (S := S.turn c false) (by rw [e]; exact M) E' hq
        exact ⟨x, env', h', g', H', S', by simp only [acode, hv]; exact q1, q2, q3, q4, q5, q6, fun t ht => q7 t (wor ht).2⟩
    · cases hk
  | block id c ih =>
    intro A R S K r g H env h hG M E hk
    simp only [vcode] at hk
    obtain ⟨x, env', h', g', H', S', q1, q2, q3, q4, q5, q6, q7⟩ := ih hG M E hk
    cases x with
    | exit i =>
      by_cases hi : i = id
      · simp only [hi, if_true] at q6
        exact ⟨.normal, env', h', g', H', S', by simp only [acode, q1, hi, if_true], q2, q3, q4, q5, q6, q7⟩
      · simp only [hi, if_false] at q6
        exact ⟨.exit i, env', h', g', H', S', by simp only [acode, q1, hi, if_false], q2, q3, q4, q5, q6, q7⟩
    | normal => exact ⟨.normal, env', h', g', H', S', by simp only [acode, q1], q2, q3, q4, q5, q6, q7⟩
    | ret => exact ⟨.ret, env', h', g', H', S', by simp only [acode, q1], q2, q3, q4, q5, q6, q7⟩
  | loop c ih =>
    intro A R S K r g H env h hG M E hk
    simp only [vcode] at hk
    split at hk
    rotate_left
    · cases hk
    rename_i T0 outs0 hlp
    simp only [fSh_eq, fOuts_eq] at hk
    generalize T0 = T at hk
    generalize outs0 = outs at hk
    split at hk
    · cases hk
    rename_i s hs
    obtain ⟨o, ho, hk⟩ := obind hk
    obtain ⟨g1, H1, a1, a2, M1, E1⟩ := fit_ok hs M E
    simp only [fVS_eq] at ho hk
    have key : ∀ (n f : Nat) (s : T.D) (g' : FM) (H : List AV) (env' : List AV) (h : AH), n ≤ f → g.le g' → (∀ t, (wCode c).testBit t = false → env'[t]? = env[t]?) → VMem h0 X g' H (T.unp s).os h → EnvR g' H (T.unp s).ts env' →
        iter (fun s => vcode cx p c A.fst (S.over (carM 0 (wCode c) S.ts) (T.unp s)) fun x S' => (match x with | .normal => (fit p T S').map Sum.inl | y => (packOut p outs y S').map Sum.inr)) n s = some o →
        ∃ x env2 h' g2 H' S', aloop (acode cx.P cf D fuel c) f env' h = some (x, env2, h') ∧ g.le g2 ∧ Pre p H H' ∧ VMem h0 X g2 H' S'.os h' ∧ EnvR g2 H' S'.ts env2 ∧ K x S' = some r ∧ ∀ t, (wCode c).testBit t = false → env2[t]? = env[t]? := by
      intro n
      induction n with
      | zero => intro f s g' H env' h hf hgg hkp M' E' hi; cases hi
      | succ n ihn =>
        intro f s g' H env' h hf hgg hkp M' E' hi
        obtain ⟨f, rfl⟩ : ∃ k, f = k + 1 := ⟨f - 1, by omega⟩
        have E2 := over_env E E' hgg hkp
        unfold iter at hi
        split at hi
        · rename_i s' hs'
          obtain ⟨x, env2, h', g2, H', S', q1, q2, q3, q4, q5, q6, q7⟩ := ih (hG.mono hgg) (S := S.over (carM 0 (wCode c) S.ts) (T.unp s)) M' E2 hs'
          cases x with
          | normal =>
            obtain ⟨w, hw, e⟩ := Option.map_eq_some_iff.1 q6
            cases e
            obtain ⟨g3, H2, b1, b2, M2, E3⟩ := fit_ok hw q4 q5
            obtain ⟨x, env3, h3, g4, H3, S3, r1, r2, r3, r4, r5, r6, r7⟩ := ihn f s' g3 H2 env2 h' (by omega) ((hgg.trans q2).trans b1) (fun t ht => by rw [q7 t ht, hkp t ht]) M2 E3 hi
            exact ⟨x, env3, h3, g4, H3, S3, by simp only [aloop, q1]; exact r1, r2, (q3.trans b2).trans r3, r4, r5, r6, r7⟩
          | exit i => obtain ⟨w, hw, e⟩ := Option.map_eq_some_iff.1 q6; cases e
          | ret => obtain ⟨w, hw, e⟩ := Option.map_eq_some_iff.1 q6; cases e
        · rename_i o' hs'
          cases hi
          obtain ⟨x, env2, h', g2, H', S', q1, q2, q3, q4, q5, q6, q7⟩ := ih (hG.mono hgg) (S := S.over (carM 0 (wCode c) S.ts) (T.unp s)) M' E2 hs'
          have hkp2 : ∀ t, (wCode c).testBit t = false → env2[t]? = env[t]? := fun t ht => by rw [q7 t ht, hkp t ht]
          have fin : ∀ {x : AX}, x ≠ .normal → acode cx.P cf D fuel c env' h = some (x, env2, h') → packOut p outs x S' = some o → ∃ x env2 h' g2 H' S', aloop (acode cx.P cf D fuel c) (f + 1) env' h = some (x, env2, h') ∧ g.le g2 ∧ Pre p H H' ∧ VMem h0 X g2 H' S'.os h' ∧ EnvR g2 H' S'.ts env2 ∧ K x S' = some r ∧ ∀ t, (wCode c).testBit t = false → env2[t]? = env[t]? := fun {x} hx e1 e2 => by
            obtain ⟨g3, H2, S2, k1, k2, k3, k4, k5⟩ := packOut_ok e2 q4 q5
            rw [k5] at hk
            refine ⟨x, env2, h', g3, H2, S.over (carM 0 (wCode c) S.ts) S2, ?_, (hgg.trans q2).trans k1, q3.trans k2, k3, over_env E k4 ((hgg.trans q2).trans k1) hkp2, hk, hkp2⟩
            cases x with
            | normal => exact absurd rfl hx
            | _ => simp only [aloop, e1]
          cases x with
          | normal => obtain ⟨w, hw, e⟩ := Option.map_eq_some_iff.1 q6; cases e
          | exit i => obtain ⟨w, hw, e⟩ := Option.map_eq_some_iff.1 q6; cases e; exact fin (by simp) q1 hw
          | ret => obtain ⟨w, hw, e⟩ := Option.map_eq_some_iff.1 q6; cases e; exact fin (by simp) q1 hw
        · cases hi
    obtain ⟨x, env', h', g', H', S', q1, q2, q3, q4⟩ := key NF fuel s g1 H1 env h hf a1 (fun _ _ => rfl) M1 E1 ho
    exact ⟨x, env', h', g', H', S', by simp only [acode]; exact q1, q2, Pre.trans a2 q3, q4⟩
  | exit id => intro A R S K r g H env h hG M E hk; exact ⟨.exit id, env, h, g, H, S, by simp only [acode], FM.le.refl g, Pre.refl p H, M, E, hk, fun _ _ => rfl⟩
  | scope c ih =>
    intro A R S K r g H env h hG M E hk
    obtain ⟨x, env', h', g', H', S', q1, q⟩ := ih hG M E hk
    exact ⟨x, env', h', g', H', S', by simp only [acode]; exact q1, q⟩
  | ret => intro A R S K r g H env h hG M E hk; exact ⟨.ret, env, h, g, H, S, by simp only [acode], FM.le.refl g, Pre.refl p H, M, E, hk, fun _ _ => rfl⟩
  | skip => intro A R S K r g H env h hG M E hk; exact ⟨.normal, env, h, g, H, S, by simp only [acode], FM.le.refl g, Pre.refl p H, M, E, hk, fun _ _ => rfl⟩
  | label l => intro A R S K r g H env h hG M E hk; exact ⟨.normal, env, h, g, H, S, by simp only [acode], FM.le.refl g, Pre.refl p H, M, E, hk, fun _ _ => rfl⟩
  | _ => intro A R S K r g H env h hG M E hk; simp only [vcode] at hk; cases hk

theorem vresults_ok {P : Program} (M : VMem h0 X g H S.os h) (E : EnvR g H S.ts env) {r : R} : ∀ {l : List ResultVar} {K : List SV → Option R}, vresults P S l K = some r → ∃ vs ss, aresults P env h l = some vs ∧ EnvR g H ss vs ∧ K ss = some r
  | [], K, hk => ⟨[], [], rfl, ⟨rfl, fun d s x h1 => by simp at h1⟩, hk⟩
  | rv :: l, K, hk => by
    have tmp : ∀ t : Nat, SVR g H (S.ts.getD t .dead) (env.getD t .undef) := fun t => by
      rw [List.getD_eq_getElem?_getD, List.getD_eq_getElem?_getD]
      cases h1 : S.ts[t]? with
      | none => exact ⟨_, rfl⟩
      | some s =>
        have hlt := lt_at h1
        have h2 : env[t]? = some (env[t]'(by rw [E.len]; exact hlt)) := List.getElem?_eq_getElem (by rw [E.len]; exact hlt)
        rw [h2]
        exact E.get t s _ h1 h2
    have cons : ∀ {x : AV} {s : SV} {vs : List AV} {ss : List SV}, SVR g H s x → EnvR g H ss vs → EnvR g H (s :: ss) (x :: vs) := fun {x s vs ss} hx E => ⟨by simp [E.len], fun d s' x' h1 h2 => by
      cases d with
      | zero => simp at h1 h2; subst h1; subst h2; exact hx
      | succ d => exact E.get d s' x' (by simpa using h1) (by simpa using h2)⟩
    cases rv with
    | tmp t =>
      obtain ⟨vs, ss, h1, h2, h3⟩ := vresults_ok M E (l := l) hk
      exact ⟨_, _, by simp only [aresults, aresult, h1], cons (tmp t) h2, h3⟩
    | cell a t =>
      obtain ⟨y, s, k1, k2, k3⟩ := vload_ok (m := mdR) rfl M hk (tmp a)
      obtain ⟨vs, ss, h1, h2, h3⟩ := vresults_ok M E (l := l) k3
      exact ⟨_, _, by simp only [aresults, aresult, k1, h1], cons k2 h2, h3⟩

theorem packed_ok {ss : List SV} {vs : List AV} (E : EnvR g H ss vs) : SVR g H (packedS ss) (packed vs) := by
  have hl := E.len
  have key : ∀ {ss : List SV} {vs : List AV}, EnvR g H ss vs → SVL g H (SV.ofList ss) vs := fun {ss} => by
    induction ss with
    | nil => intro vs E; exact List.eq_nil_of_length_eq_zero E.len
    | cons s ss ih =>
      intro vs E
      cases vs with
      | nil => have := E.len; simp at this
      | cons v vs => exact ⟨v, vs, rfl, E.get 0 s v rfl rfl, ih ⟨by have := E.len; simpa using this, fun d s' x' h1 h2 => E.get (d + 1) s' x' (by simpa using h1) (by simpa using h2)⟩⟩
  match ss, vs, hl with
  | [], [], _ => exact ⟨[], rfl, rfl⟩
  | [s], [v], _ => exact E.get 0 s v rfl rfl
  | s :: s' :: ss, v :: v' :: vs, _ => exact ⟨_, rfl, key E⟩

theorem unpL_len : ∀ {l : List SH} {r : Ty} {p : (tysOf l r).D}, (unpL l p).1.length = l.length
  | [], _, _ => rfl
  | s :: l, r, p => by
    show (((s.unp p).1 :: (unpL l (s.unp p).2).1)).length = _
    rw [List.length_cons, unpL_len]; rfl

/-- A function's run is its plain twin's. -/
theorem vfn_ok {cx : VCx} {Γ : Hooks} {Dr : Drawn} {fn : Func} {f : FuncId} {A : Ann} {ps : Sh} {rs : List Sh} {n : Nat} (hΓ : Γ f = none) (hfn : cx.P.funcs[f]? = some fn) (hn : NF ≤ n)
    (hS : Sound cx (acall cx.P Γ Dr n) (Dr (acall cx.P Γ Dr n))) (hps : ps.ts.length ≤ fn.ntmps) : SoundE cx.gl (acall cx.P Γ Dr (n + 1)) ⟨f, ps, rs, vfn cx fn A ps rs⟩ := by
  intro X g H args h p q hG hq M E
  have hq' : vfn cx fn A ps rs p = some q := hq
  unfold vfn at hq'
  split at hq'
  rotate_left
  · cases hq'
  rename_i c hb
  have hlen : args.length = ps.ts.length := by
    have := E.len
    rw [this]
    exact unpL_len
  have E0 : EnvR g H ((ps.unp p).ts ++ List.replicate (fn.ntmps - ps.ts.length) .un) (args ++ List.replicate (fn.ntmps - args.length) .undef) := by
    rw [hlen]
    refine EnvR.append E ⟨by simp, fun d s x h1 h2 => ?_⟩
    rw [List.getElem?_replicate] at h1 h2
    split at h1
    · rename_i hd; rw [if_pos hd] at h2; cases h1; cases h2; rfl
    · cases h1
  obtain ⟨x, env', h', g', H', S', k1, k2, k3, k4, k5, k6, _⟩ := vcode_ok (p := ps.os.length) hS hn hG (S := ⟨(ps.unp p).ts ++ List.replicate (fn.ntmps - ps.ts.length) .un, (ps.unp p).os⟩) M E0 hq'
  have fin : (x = .normal ∨ x = .ret) → (vresults cx.P S' fn.results.toList fun l => packAlt ps.os.length rs ⟨[packedS l], S'.os⟩) = some q → ∃ v h'' g'' H'' S'', acall cx.P Γ Dr (n + 1) f args h = some (v, h'') ∧ g.le g'' ∧ (∀ (k : Nat) (x : AV), k < ps.os.length → H[k]? = some x → H''[k]? = some x) ∧ VMem h X g'' H'' S''.os h'' ∧ EnvR g'' H'' S''.ts [v] ∧ IsAlt rs q S'' := fun hx hr => by
    obtain ⟨vs, ss, r1, r2, r3⟩ := vresults_ok k4 k5 hr
    have hp := packed_ok r2
    have E1 : EnvR g' H' (VS.mk [packedS ss] S'.os).ts [packed vs] := ⟨rfl, fun d s y h1 h2 => by
      cases d with
      | zero => simp at h1 h2; subst h1; subst h2; exact hp
      | succ d => simp at h1⟩
    obtain ⟨g2, H2, S2, b1, b2, M2, E2, b3⟩ := packAlt_ok r3 (S := ⟨[packedS ss], S'.os⟩) k4 E1
    refine ⟨packed vs, h', g2, H2, S2, ?_, k2.trans b1, fun k y hk hy => b2 k y hk (k3 k y hk hy), M2, E2, b3⟩
    refine acall_succ hΓ hfn hb args h ?_
    rw [k1]
    rcases hx with rfl | rfl <;> simp only [r1, Option.map_some]
  cases x with
  | normal => exact fin (.inl rfl) k6
  | ret => exact fin (.inr rfl) k6
  | exit i => cases k6
end
end Go.Proofs.YtlpiiifmidehjaaDoorM
