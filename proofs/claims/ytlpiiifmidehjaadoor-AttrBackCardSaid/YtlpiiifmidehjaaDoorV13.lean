/- Calls of functions whose plain twin is known: the slots that are lent, and what comes back. -/
import Derived.Test.YtlpiiifmidehjaaDoorV12
set_option linter.unusedSimpArgs false
set_option linter.unusedVariables false
namespace Go.Proofs.YtlpiiifmidehjaaDoorM
open Go Go.RowKit

/-- A callee's slot, in the caller's numbers. -/
def backP (l : List Nat) (N : Nat) (i : Nat) : Option Nat := if i < l.length then (match l[i]? with | some k => if k < N then some k else none | none => none) else some (N + (i - l.length))
def putOs (os : List (Option SO)) : List Nat → List (Option SO) → List (Option SO)
  | k :: l, o :: r => putOs (os.set k o) l r
  | _, _ => os
def mergeOs (os : List (Option SO)) (l : List Nat) (r : List (Option SO)) : List (Option SO) :=
  putOs os l ((r.take l.length).map fun o => o.bind (SO.ren (backP l os.length))) ++ (r.drop l.length).map fun o => o.bind (SO.ren (backP l os.length))

section
variable {g g' : FM} {H H' : List AV} {env : List AV} {h h0 h' : AH} {X : List Nat} {S : VS}

theorem putOs_len : ∀ {l : List Nat} {os r : List (Option SO)}, (putOs os l r).length = os.length
  | [], os, r => by simp [putOs]
  | k :: l, os, [] => by simp [putOs]
  | k :: l, os, o :: r => by simp [putOs, putOs_len (l := l)]
theorem putOs_at : ∀ {l : List Nat} {os r : List (Option SO)} {k : Nat} {o : SO}, r.length = l.length → l.Nodup → (putOs os l r)[k]? = some (some o) → (k ∉ l ∧ os[k]? = some (some o)) ∨ ∃ i : Nat, l[i]? = some k ∧ r[i]? = some (some o)
  | [], os, r, k, o, hl, hn, h => .inl ⟨by simp, by simpa [putOs] using h⟩
  | j :: l, os, [], k, o, hl, hn, h => by simp at hl
  | j :: l, os, a :: r, k, o, hl, hn, h => by
    simp only [putOs] at h
    obtain ⟨hn1, hn2⟩ := List.nodup_cons.1 hn
    rcases putOs_at (by simpa using hl) hn2 h with ⟨h1, h2⟩ | ⟨i, h1, h2⟩
    · rcases set_at h2 with ⟨rfl, e, _⟩ | ⟨hne, h2⟩
      · exact .inr ⟨0, rfl, by rw [← e]; rfl⟩
      · exact .inl ⟨fun hm => by
          rcases List.mem_cons.1 hm with e | hm
          · exact hne e
          · exact h1 hm, h2⟩
    · exact .inr ⟨i + 1, by simpa using h1, by simpa using h2⟩

theorem bind_at {os : List (Option SO)} {f : SO → Option SO} {i : Nat} {o' : SO} (h : (os.map fun o => o.bind f)[i]? = some (some o')) : ∃ o, os[i]? = some (some o) ∧ f o = some o' := by
  rw [List.getElem?_map] at h
  obtain ⟨q, h1, h2⟩ := Option.map_eq_some_iff.1 h
  obtain ⟨o, rfl, h3⟩ := Option.bind_eq_some_iff.1 h2
  exact ⟨o, h1, h3⟩

/-- What a call comes to, among the caller's slots. -/
theorem merge_ok {os osr : List (Option SO)} {l : List Nat} {Hr : List AV} {gr go gb : FM} {Xc : List Nat} (M : VMem h0 X gb H os h) (R : VMem h Xc gr Hr osr h') (hln : l.Nodup) (hlr : l.length ≤ osr.length)
    (hc : ∀ (i k : Nat) (x : AV), l[i]? = some k → H[k]? = some x → Hr[i]? = some x)
    (hX : ∀ id ∈ Xc, ∃ (k : Nat) (o : SO) (x : AV), k ∈ l ∧ os[k]? = some (some o) ∧ H[k]? = some x ∧ hid x = some id)
    (hgo : gb.le go) (hok : go.ok h') (hgx : ∀ id c, go.c id = some c → go.b id ∨ id ∈ X ∨ h0.n ≤ id)
    (hS : ∀ (i : Nat) (o : SO) (x : AV), osr[i]? = some (some o) → SOR gr Hr h' o x → SOR go Hr h' o x)
    (hown1 : ∀ (k : Nat) (o : SO) (x : AV) (id : Nat), os[k]? = some (some o) → H[k]? = some x → hid x = some id → id ∉ Xc → go.c id = none)
    (hown2 : ∀ (i : Nat) (o : SO) (x : AV) (id : Nat), osr[i]? = some (some o) → Hr[i]? = some x → hid x = some id → go.c id = none) :
    VMem h0 X go (H ++ Hr.drop l.length) (mergeOs os l osr) h' ∧ Moved Hr (H ++ Hr.drop l.length) (backP l os.length) ∧ Hpre H (H ++ Hr.drop l.length) := by
  have hpre : Hpre H (H ++ Hr.drop l.length) := fun k x hx => by rw [List.getElem?_append_left (lt_at hx)]; exact hx
  have hmv : Moved Hr (H ++ Hr.drop l.length) (backP l os.length) := fun i j x hij hx => by
    unfold backP at hij
    split at hij
    · rename_i hi
      split at hij
      · rename_i k hk
        split at hij
        · rename_i hkN
          have hkj : k = j := by simpa using hij
          subst hkj
          have hkH : k < H.length := by rw [M.hl]; exact hkN
          have hH := hc i k _ hk (List.getElem?_eq_getElem hkH)
          rw [hx] at hH
          cases hH
          rw [List.getElem?_append_left hkH]
          exact List.getElem?_eq_getElem hkH
        · cases hij
      · cases hij
    · rename_i hi
      cases hij
      rw [← M.hl, List.getElem?_append_right (by omega), List.getElem?_drop]
      rw [show l.length + (H.length + (i - l.length) - H.length) = i by omega]
      exact hx
  have hnn : h.n ≤ h'.n := R.n
  -- alive slots, and where they come from
  have old : ∀ {k : Nat} {o' : SO} {x : AV}, (mergeOs os l osr)[k]? = some (some o') → (H ++ Hr.drop l.length)[k]? = some x →
      (k ∉ l ∧ k < os.length ∧ os[k]? = some (some o') ∧ H[k]? = some x) ∨ ∃ i o, osr[i]? = some (some o) ∧ o.ren (backP l os.length) = some o' ∧ Hr[i]? = some x ∧ ((l[i]? = some k ∧ k < os.length ∧ H[k]? = some x) ∨ (l.length ≤ i ∧ k = os.length + (i - l.length))) := fun {k o' x} hk hx => by
    unfold mergeOs at hk
    rcases Nat.lt_or_ge k os.length with hlt | hge
    · rw [List.getElem?_append_left (by rw [putOs_len]; exact hlt)] at hk
      rw [List.getElem?_append_left (by rw [M.hl]; exact hlt)] at hx
      rcases putOs_at (by simp; omega) hln hk with ⟨h1, h2⟩ | ⟨i, h1, h2⟩
      · exact .inl ⟨h1, hlt, h2, hx⟩
      · obtain ⟨o, h3, h4⟩ := bind_at h2
        have hi := lt_at h1
        rw [List.getElem?_take, if_pos hi] at h3
        exact .inr ⟨i, o, h3, h4, hc i k x h1 hx, .inl ⟨h1, hlt, hx⟩⟩
    · rw [List.getElem?_append_right (by rw [putOs_len]; exact hge), putOs_len] at hk
      rw [List.getElem?_append_right (by rw [M.hl]; exact hge), List.getElem?_drop, M.hl] at hx
      obtain ⟨o, h3, h4⟩ := bind_at hk
      rw [List.getElem?_drop] at h3
      exact .inr ⟨l.length + (k - os.length), o, h3, h4, hx, .inr ⟨by omega, by omega⟩⟩
  have inX : ∀ id ∈ Xc, id ∈ X ∨ h0.n ≤ id := fun id hid' => by
    obtain ⟨k, o, x, k1, k2, k3, k4⟩ := hX id hid'
    exact (M.own k o x id k2 k3 k4).1
  have ltX : ∀ id ∈ Xc, id < h.n := fun id hid' => by
    obtain ⟨k, o, x, k1, k2, k3, k4⟩ := hX id hid'
    exact (M.so k o x k2 k3).lt k4
  have un : ∀ {k : Nat} {o : SO} {x : AV} {id : Nat}, k ∉ l → os[k]? = some (some o) → H[k]? = some x → hid x = some id → id ∉ Xc := fun {k o x id} hk h1 h2 h3 hXc => by
    obtain ⟨k', o', x', q1, q2, q3, q4⟩ := hX id hXc
    have := M.nd k o x k' o' x' id h1 h2 q2 q3 h3 q4
    subst this
    exact hk q1
  have keep : ∀ {k : Nat} {o : SO} {x : AV}, k ∉ l → os[k]? = some (some o) → H[k]? = some x → SOR gb H h' o x := fun {k o x} hk h1 h2 =>
    (M.so k o x h1 h2).keep fun id q hi hq => R.old id q (un hk h1 h2 hi) hq
  refine ⟨⟨Nat.le_trans M.n hnn, fun k o hk hg => R.old k o (fun hXc => ?_) (M.old k o hk hg), hok, ?_, fun k o' x h1 h2 => ?_, fun k o' x id h1 h2 h3 => ?_, hgx, fun k o' x k' o'' x' id h1 h2 h3 h4 h5 h6 => ?_⟩, hmv, hpre⟩
  · rcases inX k hXc with h1 | h1
    · exact hk h1
    · have := AH.get_lt hg; omega
  · unfold mergeOs
    have := R.hl
    simp only [List.length_append, putOs_len, List.length_map, List.length_drop, M.hl]
    omega
  · rcases old h1 h2 with ⟨k1, k2, k3, k4⟩ | ⟨i, o, k1, k2, k3, k4⟩
    · exact (keep k1 k3 k4).mono hgo hpre
    · exact SO.ren_ok hmv k2 (hS i o x k1 (R.so i o x k1 k3))
  · have hv : go.v id = none := by
      cases e : go.v id with
      | none => rfl
      | some c =>
        exfalso
        have hgv := hok.2 id c e
        have nog : ∀ {o : SO} {H : List AV} {g : FM}, SOR g H h' o x → False := fun {o H g} hr => by
          cases o with
          | obj t cs => obtain ⟨i, c', rfl, q, _⟩ := hr; cases h3; rw [hgv] at q; cases q
          | row e t l =>
            rcases hr with ⟨rfl, _⟩ | ⟨i, off, c', xs, rfl, q, _⟩
            · cases h3
            · cases h3; rw [hgv] at q; cases q
          | map kt et m => obtain ⟨i, es, rfl, q, _⟩ := hr; cases h3; rw [hgv] at q; cases q
          | sit s p => obtain ⟨i, rfl, _, q⟩ := hr; cases h3; rw [hgv] at q; cases q
        rcases old h1 h2 with ⟨k1, k2, k3, k4⟩ | ⟨i, o, k1, k2, k3, k4⟩
        · exact nog (keep k1 k3 k4)
        · exact nog (R.so i o x k1 k3)
    rcases old h1 h2 with ⟨k1, k2, k3, k4⟩ | ⟨i, o, k1, k2, k3, k4⟩
    · exact ⟨(M.own k _ x id k3 k4 h3).1, hown1 k _ x id k3 k4 h3 (un k1 k3 k4 h3), hv⟩
    · refine ⟨?_, hown2 i o x id k1 k3 h3, hv⟩
      rcases (R.own i o x id k1 k3 h3).1 with q | q
      · exact inX id q
      · exact .inr (Nat.le_trans M.n q)
  · rcases old h1 h2 with ⟨k1, k2, k3, k4⟩ | ⟨i, o, k1, k2, k3, k4⟩
    · rcases old h3 h4 with ⟨q1, q2, q3, q4⟩ | ⟨i', o2, q1, q2, q3, q4⟩
      · exact M.nd k _ x k' _ x' id k3 k4 q3 q4 h5 h6
      · exfalso
        rcases (R.own i' o2 x' id q1 q3 h6).1 with q | q
        · exact un k1 k3 k4 h5 q
        · have := (M.so k _ x k3 k4).lt h5; omega
    · rcases old h3 h4 with ⟨q1, q2, q3, q4⟩ | ⟨i', o2, q1, q2, q3, q4⟩
      · exfalso
        rcases (R.own i o x id k1 k3 h5).1 with q | q
        · exact un q1 q3 q4 h6 q
        · have := (M.so k' _ x' q3 q4).lt h6; omega
      · have := R.nd i o x i' o2 x' id k1 k3 q1 q3 h5 h6
        subst this
        rcases k4 with ⟨a1, a2, a3⟩ | ⟨a1, a2⟩
        · rcases q4 with ⟨b1, b2, b3⟩ | ⟨b1, b2⟩
          · rw [a1] at b1; cases b1; rfl
          · have := lt_at a1; omega
        · rcases q4 with ⟨b1, b2, b3⟩ | ⟨b1, b2⟩
          · have := lt_at b1; omega
          · omega

/-! ### Alive slots -/
theorem frz_alive {k j : Nat} {o : SO} (h : (frz S k).os[j]? = some (some o)) : ∃ o', S.os[j]? = some (some o') := by
  unfold frz at h
  split at h
  · rcases set_at h with ⟨_, e, _⟩ | ⟨_, h⟩
    · cases e
    · rw [List.getElem?_map] at h
      obtain ⟨q, h1, h2⟩ := Option.map_eq_some_iff.1 h
      obtain ⟨o', rfl, _⟩ := Option.map_eq_some_iff.1 h2
      exact ⟨o', h1⟩
  · exact ⟨o, h⟩
theorem frz_olen {k : Nat} : (frz S k).os.length = S.os.length := by unfold frz; split <;> simp
theorem frzAll_alive : ∀ {ks : List Nat} {S : VS} {j : Nat} {o : SO}, (frzAll S ks).os[j]? = some (some o) → ∃ o', S.os[j]? = some (some o')
  | [], S, j, o, h => ⟨o, h⟩
  | k :: ks, S, j, o, h => by
    unfold frzAll at h
    split at h
    · obtain ⟨o', h'⟩ := frzAll_alive h; exact frz_alive h'
    · exact frzAll_alive h
theorem frzAll_olen : ∀ {ks : List Nat} {S : VS}, (frzAll S ks).os.length = S.os.length
  | [], S => rfl
  | k :: ks, S => by
    unfold frzAll
    split
    · rw [frzAll_olen, frz_olen]
    · exact frzAll_olen
theorem coer_len {T : List SOH} {a : SH} {s : SV} {os : List (Option SO)} : os.length ≤ (coer T a s os).2.length := by
  rcases Nat.lt_or_ge (coer T a s os).2.length os.length with h1 | h1
  · obtain ⟨o', this, _⟩ := coer_pre (T := T) (a := a) (s := s) (List.getElem?_eq_getElem h1)
    rw [List.getElem?_eq_none (Nat.le_refl _)] at this; cases this
  · exact h1
theorem coer_alive {T : List SOH} {a : SH} {s : SV} {os : List (Option SO)} {j : Nat} {o : SO} (hj : j < os.length) (h : (coer T a s os).2[j]? = some (some o)) : os[j]? = some (some o) := by
  obtain ⟨o', this, k⟩ := coer_pre (T := T) (a := a) (s := s) (List.getElem?_eq_getElem hj)
  rw [h] at this
  cases Option.some.inj this
  rcases k with k | ⟨k, _⟩
  · rw [List.getElem?_eq_getElem hj, ← k]
  · cases k
theorem coerL_alive {T : List SOH} : ∀ {as : List SH} {xs : List SV} {os : List (Option SO)} {j : Nat} {o : SO}, j < os.length → (coerL T as xs os).2[j]? = some (some o) → os[j]? = some (some o)
  | a :: as, s :: xs, os, j, o, hj, h => coer_alive hj (coerL_alive (Nat.lt_of_lt_of_le hj coer_len) h)
  | [], xs, os, j, o, hj, h => by simpa [coerL] using h
  | _ :: _, [], os, j, o, hj, h => by simpa [coerL] using h
theorem coerL_len {T : List SOH} : ∀ {as : List SH} {xs : List SV} {os : List (Option SO)}, os.length ≤ (coerL T as xs os).2.length
  | a :: as, s :: xs, os => Nat.le_trans coer_len (coerL_len (as := as))
  | [], xs, os => by simp [coerL]
  | _ :: _, [], os => by simp [coerL]
theorem coerO_alive {T : List SOH} : ∀ {ps : List (Nat × Nat)} {os : List (Option SO)} {j : Nat} {o : SO}, j < os.length → (coerO T ps os)[j]? = some (some o) → ∃ o', os[j]? = some (some o')
  | [], os, j, o, hj, h => ⟨o, h⟩
  | (k, i) :: ps, os, j, o, hj, h => by
    unfold coerO at h
    split at h
    · rename_i t0 a t cs hT hos
      split at h
      · obtain ⟨o1, h1⟩ := coerO_alive (by rw [List.length_set]; exact Nat.lt_of_lt_of_le hj coer_len) h
        rcases set_at h1 with ⟨rfl, _, _⟩ | ⟨_, h1⟩
        · exact ⟨_, hos⟩
        · exact ⟨o1, coer_alive hj h1⟩
      · exact coerO_alive hj h
    · exact coerO_alive hj h
theorem prep_alive {p : Nat} {T : Sh} {j : Nat} {o : SO} (hj : j < S.os.length) (h : (prep p T S).os[j]? = some (some o)) : ∃ o', S.os[j]? = some (some o') := by
  have e1 : (prep1 p T S).os.length = S.os.length := frzAll_olen
  have e2 : j < (prep2 T (prep1 p T S)).os.length := Nat.lt_of_lt_of_le (by rw [e1]; exact hj) (coerL_len (T := T.os) (as := T.ts) (xs := (prep1 p T S).ts))
  obtain ⟨o1, h1⟩ := coerO_alive (T := T.os) e2 h
  exact frzAll_alive (coerL_alive (T := T.os) (show j < (prep1 p T S).os.length by rw [e1]; exact hj) h1)

theorem EnvR.append {ts ts' : List SV} {xs ys : List AV} (h1 : EnvR g H ts xs) (h2 : EnvR g H ts' ys) : EnvR g H (ts ++ ts') (xs ++ ys) := by
  refine ⟨by simp [h1.len, h2.len], fun d s x k1 k2 => ?_⟩
  rcases Nat.lt_or_ge d ts.length with hd | hd
  · rw [List.getElem?_append_left hd] at k1
    rw [List.getElem?_append_left (by rw [h1.len]; exact hd)] at k2
    exact h1.get d s x k1 k2
  · rw [List.getElem?_append_right hd] at k1
    rw [List.getElem?_append_right (by rw [h1.len]; exact hd), h1.len] at k2
    exact h2.get _ s x k1 k2
theorem EnvR.take {ts : List SV} {xs : List AV} (h1 : EnvR g H ts xs) (n : Nat) : EnvR g H (ts.take n) (xs.take n) := by
  refine ⟨by simp [h1.len], fun d s x k1 k2 => ?_⟩
  rw [List.getElem?_take] at k1 k2
  split at k1
  · rename_i hd; rw [if_pos hd] at k2; exact h1.get d s x k1 k2
  · cases k1
theorem EnvR.drop {ts : List SV} {xs : List AV} (h1 : EnvR g H ts xs) (n : Nat) : EnvR g H (ts.drop n) (xs.drop n) := by
  refine ⟨by simp [h1.len], fun d s x k1 k2 => ?_⟩
  rw [List.getElem?_drop] at k1 k2
  exact h1.get _ s x k1 k2
end

/-! ### Calls -/
section
variable {R : Type}
def vback (S : VS) (n : Nat) (S3 : VS) (l : List Nat) (Sr : VS) (K : VS → SV → Option R) : Option R :=
  match Sr.ts with
  | [s] => if l.length ≤ Sr.os.length then
      (if (Sr.flat && (S3.os.length == S.os.length)) = true then K ⟨S.ts, mergeOs S.os l Sr.os⟩ (s.ren (backP l S.os.length))
      else K ⟨S3.ts.drop n, mergeOs S3.os l Sr.os⟩ (s.ren (backP l S3.os.length)))
      else none
  | _ => none
def vcall1 (m : Md R) (e : VEnt) (S : VS) (args : List SV) (K : VS → SV → Option R) (alt : Option R) : Option R :=
  (fun S3 => (fun l =>
    if args.length = e.ps.ts.length ∧ nodupB l = true ∧ l.length = e.ps.os.length then
      match e.ps.pack ((VS.mk (S3.ts.take args.length) S3.os).ren l) with
      | some p => vbind m (altDflt e.rs) (e.F p) fun q => vAlt m e.rs q fun Sr => vback S args.length S3 l Sr K
      | none => alt
    else alt) (ordOf 0 e.ps S3)) (prep 0 e.ps ⟨args ++ S.ts, S.os⟩)
def vcall (m : Md R) (S : VS) (f : FuncId) (args : List SV) (K : VS → SV → Option R) : List VEnt → Option R
  | [] => none
  | e :: es => if e.f = f then vcall1 m e S args K (vcall m S f args K es) else vcall m S f args K es
end

section
variable {R : Type} {m : Md R} {g g' : FM} {H H' : List AV} {env xs : List AV} {h h0 h' : AH} {X : List Nat} {S : VS}

theorem VMem.base (M : VMem h0 X g H S.os h) : ∃ Xc, VMem h Xc ⟨g.c, g.v, fun id => (g.c id).isSome = true⟩ H S.os h ∧ ∀ id ∈ Xc, ∃ (k : Nat) (o : SO) (x : AV), S.os[k]? = some (some o) ∧ H[k]? = some x ∧ hid x = some id := by
  refine ⟨(List.range S.os.length).filterMap fun k => match S.os[k]? with | some (some _) => (H[k]?).bind hid | _ => none, ⟨Nat.le_refl _, fun _ _ _ hk => hk, M.fz, M.hl, fun k o x h1 h2 => (M.so k o x h1 h2).reb, fun k o x id h1 h2 h3 => ⟨.inl ?_, (M.own k o x id h1 h2 h3).2⟩, fun id c hc => .inl (by show (g.c id).isSome = true; have : g.c id = some c := hc; rw [this]; rfl), M.nd⟩, fun id hid' => ?_⟩
  · exact List.mem_filterMap.2 ⟨k, List.mem_range.2 (lt_at h1), by simp only [h1, h2, Option.bind_some]; exact h3⟩
  · obtain ⟨k, hk, hq⟩ := List.mem_filterMap.1 hid'
    split at hq
    · rename_i o ho
      obtain ⟨x, hx, hi⟩ := Option.bind_eq_some_iff.1 hq
      exact ⟨k, o, x, ho, hx, hi⟩
    · cases hq

theorem vcall1_ok (hm : m.real = true) {gl : List GVar} (hG : GOK g gl) {cf : CallF} {e : VEnt} (hS : SoundE gl cf e) (M : VMem h0 X g H S.os h) (E : EnvR g H S.ts env) {args : List SV} (Ea : EnvR g H args xs) {K : VS → SV → Option R} {alt : Option R} {r : R} (hk : vcall1 m e S args K alt = some r) :
    alt = some r ∨ Went h0 X g H env (cf e.f xs h) K r := by
  unfold vcall1 at hk
  simp only at hk
  split at hk
  rotate_left
  · exact .inl hk
  rename_i hc
  obtain ⟨c1, c2, c3⟩ := hc
  split at hk
  rotate_left
  · exact .inl hk
  rename_i p hp
  right
  obtain ⟨q, hq, hk⟩ := vbind_ok hm hk
  have M0 : VMem h0 X g H (VS.mk (args ++ S.ts) S.os).os h := M
  have E0 : EnvR g H (VS.mk (args ++ S.ts) S.os).ts (xs ++ env) := Ea.append E
  have alive : ∀ {j o}, j < S.os.length → (prep 0 e.ps ⟨args ++ S.ts, S.os⟩).os[j]? = some (some o) → ∃ o', S.os[j]? = some (some o') := fun {j o} hj hh => prep_alive (S := ⟨args ++ S.ts, S.os⟩) hj hh
  obtain ⟨g1, H1, a1, a2, M1, E1⟩ := prep_ok (p := 0) (T := e.ps) M0 E0
  generalize hS3 : prep 0 e.ps ⟨args ++ S.ts, S.os⟩ = S3 at *
  generalize hl : ordOf 0 e.ps S3 = l at *
  have hln := nodupB_ok c2
  have hmv : Moved H1 (l.map fun k => H1.getD k nilS) (posIn l) := moved_pos
  have M2 := M1.ren hln hmv
  have Et := E1.take args.length
  have hxl : xs.length = args.length := Ea.len
  rw [List.take_left' hxl] at Et
  have E2 := Et.ren hmv
  obtain ⟨M3, E3⟩ := Sh.pack_ok (S := (VS.mk (S3.ts.take args.length) S3.os).ren l) hp M2 E2
  obtain ⟨Xc, M4, hXc⟩ := VMem.base (S := e.ps.unp p) M3
  have E4 : EnvR ⟨g1.c, g1.v, fun id => (g1.c id).isSome = true⟩ (l.map fun k => H1.getD k nilS) (e.ps.unp p).ts xs := ⟨E3.len, fun d s x k1 k2 => (E3.get d s x k1 k2).reb⟩
  obtain ⟨v, h', gr, Hr, Sr, r1, r2, r3, R, RE, hAlt⟩ := hS Xc _ _ xs h p q (hG.mono a1).reb hq M4 E4
  have hk := vAlt_ok hm hk hAlt
  -- the lent slots
  have hXl : ∀ id ∈ Xc, ∃ (k : Nat) (o : SO) (x : AV), k ∈ l ∧ S3.os[k]? = some (some o) ∧ H1[k]? = some x ∧ hid x = some id := fun id hid' => by
    obtain ⟨i, o, x, k1, k2, k3⟩ := hXc id hid'
    -- the packed slot comes of a renamed one
    have hpk := hp
    unfold Sh.pack at hpk
    split at hpk
    · rename_i w hw
      obtain ⟨_, q2, _⟩ := packL_ok (g := g1) (H := H1) hpk
      obtain ⟨_, _, q3⟩ := opackL_ok (g := g1) (H := H1) (h := h) hw
      have k1' : (ounpL e.ps.os (unpL e.ps.ts p).2).1[i]? = some (some o) := k1
      rw [q2] at k1'
      obtain ⟨o1, k4, _⟩ := q3 i o k1'
      have k4' : (renOs l (posIn l) S3.os)[i]? = some (some o1) := k4
      unfold renOs at k4'
      rw [List.getElem?_map] at k4'
      obtain ⟨k, hk', hq'⟩ := Option.map_eq_some_iff.1 k4'
      obtain ⟨o2, ho2, _⟩ := Option.bind_eq_some_iff.1 hq'
      have hos : S3.os[k]? = some (some o2) := by
        unfold osAt at ho2
        cases e' : S3.os[k]? with
        | none => rw [e'] at ho2; cases ho2
        | some y => rw [e'] at ho2; simp only [Option.join_some] at ho2; rw [ho2]
      have hlt := lt_at hos
      have hx : H1[k]? = some (H1[k]'(by rw [M1.hl]; exact hlt)) := List.getElem?_eq_getElem _
      rw [List.getElem?_map, hk', Option.map_some, List.getD_eq_getElem?_getD, hx] at k2
      cases k2
      exact ⟨k, o2, _, List.mem_of_getElem? hk', hos, hx, k3⟩
    · cases hpk
  have hc1 : ∀ (i k : Nat) (x : AV), l[i]? = some k → H1[k]? = some x → Hr[i]? = some x := fun i k x hi hx => by
    refine r3 i x (by rw [← c3]; exact lt_at hi) ?_
    rw [List.getElem?_map, hi, Option.map_some, List.getD_eq_getElem?_getD, hx]
    rfl
  have hsr : ∃ s, Sr.ts = [s] ∧ SVR gr Hr s v := by
    have hl1 := RE.len
    obtain ⟨s, hs⟩ : ∃ s, Sr.ts = [s] := List.length_eq_one_iff.1 (by rw [← hl1]; rfl)
    exact ⟨s, hs, RE.get 0 s v (by rw [hs]; rfl) rfl⟩
  obtain ⟨s, hs, hsv⟩ := hsr
  unfold vback at hk
  rw [hs] at hk
  simp only at hk
  split at hk
  rotate_left
  · cases hk
  rename_i hlr
  split at hk
  · -- the answer names no frozen memory
    rename_i hf
    simp only [Bool.and_eq_true, beq_iff_eq] at hf
    obtain ⟨hf, hlen⟩ := hf
    have hf' : Sr.ts.all SV.flat = true ∧ Sr.os.all SO.flat = true := by simpa [VS.flat] using hf
    have hH1 : ∀ {k : Nat} {x : AV}, H1[k]? = some x → H[k]? = some x := fun {k x} hx => by
      have hlt := lt_at hx
      rw [M1.hl, hlen, ← M.hl] at hlt
      have := a2 k _ (List.getElem?_eq_getElem hlt)
      rw [hx] at this
      rw [List.getElem?_eq_getElem hlt, ← Option.some.inj this]
    have hX0 : ∀ id ∈ Xc, ∃ (k : Nat) (o : SO) (x : AV), k ∈ l ∧ S.os[k]? = some (some o) ∧ H[k]? = some x ∧ hid x = some id := fun id hid' => by
      obtain ⟨k, o, x, k1, k2, k3, k4⟩ := hXl id hid'
      obtain ⟨o', ho'⟩ := alive (by have := lt_at k2; omega) k2
      exact ⟨k, o', x, k1, ho', hH1 k3, k4⟩
    have nox : ∀ id ∈ Xc, g.c id = none ∧ g.v id = none := fun id hid' => by
      obtain ⟨k, o, x, k1, k2, k3, k4⟩ := hX0 id hid'
      exact (M.own k o x id k2 k3 k4).2
    have hok : g.ok h' := by
      refine ⟨fun id c hc => ?_, fun id c hc => ?_⟩
      · obtain ⟨a, b, d, hq'⟩ := M.fz.1 id c hc
        exact ⟨a, b, d, R.old id _ (fun hh => by rw [(nox id hh).1] at hc; cases hc) hq'⟩
      · exact R.old id _ (fun hh => by rw [(nox id hh).2] at hc; cases hc) (M.fz.2 id c hc)
    obtain ⟨N1, N2, N3⟩ := merge_ok (go := g) M R hln hlr (fun i k x hi hx => hc1 i k x hi (a2 k x hx)) hX0 (FM.le.refl g) hok M.gx
      (fun i o x hi hso => SOR.free (by
        have := List.all_eq_true.1 hf'.2 _ (List.mem_of_getElem? hi); exact this) hso)
      (fun k o x id h1 h2 h3 _ => (M.own k o x id h1 h2 h3).2.1)
      (fun i o x id h1 h2 h3 => by
        rcases (R.own i o x id h1 h2 h3).1 with hh | hh
        · exact (nox id hh).1
        · cases e' : g.c id with
          | none => rfl
          | some c => obtain ⟨_, _, _, hq'⟩ := M.fz.1 id c e'; have := AH.get_lt hq'; omega)
    have hsf : s.flat = true := by have := hf'.1; rw [hs] at this; simpa using this
    exact ⟨v, h', g, _, ⟨S.ts, mergeOs S.os l Sr.os⟩, _, r1, FM.le.refl g, N3, N1, E.mono (FM.le.refl g) N3, SVL.ren N2 (SVL.free hsf hsv), hk⟩
  · have hle : g1.le ⟨gr.c, gr.v, g1.b⟩ := ⟨fun id c hc => r2.c id c hc, fun id c hc => r2.v id c hc, rfl⟩
    obtain ⟨N1, N2, N3⟩ := merge_ok (go := ⟨gr.c, gr.v, g1.b⟩) M1 R hln hlr hc1 hXl hle R.fz
      (fun id c hc => by
        rcases R.gx id c hc with hh | hh | hh
        · have hb : gr.b = fun id => (g1.c id).isSome = true := r2.b
          rw [hb] at hh
          obtain ⟨c', hc'⟩ := Option.isSome_iff_exists.1 hh
          exact M1.gx id c' hc'
        · obtain ⟨k, o, x, k1, k2, k3, k4⟩ := hXl id hh
          exact .inr (M1.own k o x id k2 k3 k4).1
        · exact .inr (.inr (Nat.le_trans M1.n hh)))
      (fun i o x hi hso => hso.reb)
      (fun k o x id h1 h2 h3 hnX => by
        cases e' : gr.c id with
        | none => rfl
        | some c =>
          exfalso
          rcases R.gx id c e' with hh | hh | hh
          · have hb : gr.b = fun id => (g1.c id).isSome = true := r2.b
            rw [hb] at hh
            have := (M1.own k o x id h1 h2 h3).2.1
            simp [this] at hh
          · exact hnX hh
          · have := (M1.so k o x h1 h2).lt h3; omega)
      (fun i o x id h1 h2 h3 => (R.own i o x id h1 h2 h3).2.1)
    have Ed := E1.drop args.length
    rw [List.drop_left' hxl] at Ed
    exact ⟨v, h', ⟨gr.c, gr.v, g1.b⟩, _, ⟨S3.ts.drop args.length, mergeOs S3.os l Sr.os⟩, _, r1, a1.trans hle, a2.trans N3, N1, Ed.mono hle N3, SVL.ren N2 (SVL.reb hsv), hk⟩

theorem vcall_ok (hm : m.real = true) {gl : List GVar} (hG : GOK g gl) {cf : CallF} (M : VMem h0 X g H S.os h) (E : EnvR g H S.ts env) {f : FuncId} {args : List SV} (Ea : EnvR g H args xs) {K : VS → SV → Option R} {r : R} : ∀ {es : List VEnt}, (∀ e ∈ es, SoundE gl cf e) → vcall m S f args K es = some r → Went h0 X g H env (cf f xs h) K r
  | [], _, hk => by cases hk
  | e :: es, hS, hk => by
    unfold vcall at hk
    split at hk
    · rename_i hf
      subst hf
      rcases vcall1_ok hm hG (hS e (List.mem_cons_self ..)) M E Ea hk with h1 | h1
      · exact vcall_ok hm hG M E Ea (fun e' he' => hS e' (List.mem_cons_of_mem _ he')) h1
      · exact h1
    · exact vcall_ok hm hG M E Ea (fun e' he' => hS e' (List.mem_cons_of_mem _ he')) hk
end
end Go.Proofs.YtlpiiifmidehjaaDoorM
