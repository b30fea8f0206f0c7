/- The value machine: composites, maps looked up; operations that write. -/
import Derived.Test.YtlpiiifmidehjaaDoorV5
set_option linter.unusedSimpArgs false
set_option linter.unusedVariables false
namespace Go.Proofs.YtlpiiifmidehjaaDoorM
open Go Go.RowKit

section
variable {R : Type} {m : Md R} {P : Program} {g : FM} {H : List AV} {env : List AV} {h h0 : AH} {X : List Nat} {S : VS}

/-! ### Composites -/
theorem SV.okL_app : ∀ {s s' : SV}, s.okL = true → s'.okL = true → (s.app s').okL = true
  | .nl, _, _, k => k
  | .cn a b, _, h, k => by simp only [SV.okL, Bool.and_eq_true, SV.app] at h ⊢; exact ⟨h.1, SV.okL_app h.2 k⟩
theorem SV.okL_tk : ∀ {n : Nat} {s : SV}, s.okL = true → (s.tk n).okL = true
  | 0, s, h => by cases s <;> rfl
  | n + 1, .cn a b, h => by simp only [SV.okL, Bool.and_eq_true, SV.tk] at h ⊢; exact ⟨h.1, SV.okL_tk h.2⟩
  | n + 1, .nl, h => rfl
theorem SV.okL_drp : ∀ {n : Nat} {s : SV}, s.okL = true → (s.drp n).okL = true
  | 0, s, h => by simpa [SV.drp] using h
  | n + 1, .cn a b, h => by simp only [SV.okL, Bool.and_eq_true, SV.drp] at h ⊢; exact SV.okL_drp h.2
  | n + 1, .nl, h => rfl

theorem spl_ok {c xs : SV} {off : Nat} {l ls : List AV} (hc : c.okL = true) (hx : xs.okL = true) (hl : SVL g H c l) (hs : SVL g H xs ls) (ho : off + xs.len ≤ c.len) : SVL g H (c.spl off xs) (splice l off ls) ∧ (c.spl off xs).okL = true := by
  have h1 := SV.okL_isL hc
  have h2 := SV.okL_isL hx
  refine ⟨?_, SV.okL_app (SV.okL_tk hc) (SV.okL_app hx (SV.okL_drp hc))⟩
  unfold SV.spl splice
  rw [SVL.len h2 hs]
  exact SVL.app SV.isL_tk (SVL.tk h1 (by omega) hl) (SVL.app h2 hs (SVL.drp h1 (by omega) hl))

theorem zeroS_ok {t : TypeId} {z : SV} (hz : zeroS P t = some z) : ∃ x l, zeroOf P t = some x ∧ x.cells = some l ∧ SVL g H z l ∧ z.okL = true := by
  unfold zeroS at hz
  cases hv : (P.info? t).bind (·.zero) with
  | none => rw [hv] at hz; cases hz
  | some v =>
    rw [hv] at hz
    obtain ⟨l, h1, h2, h3, h4⟩ := cellsSV_ok (g := g) (H := H) hz (litSV_ok v)
    exact ⟨_, l, by simp only [zeroOf, hv, Option.map_some], h1, h2, h4⟩

inductive PartsR (g : FM) (H : List AV) : List (Nat × Nat × SV) → List (Nat × Nat × List AV) → Prop
  | nil : PartsR g H [] []
  | cons {o s : Nat} {x : SV} {l : List AV} {r : List (Nat × Nat × SV)} {q : List (Nat × Nat × List AV)} (h : SVL g H x l) (ho : x.okL = true) (hr : PartsR g H r q) : PartsR g H ((o, s, x) :: r) ((o, s, l) :: q)

theorem partsS_ok {place : Nat → Option (Nat × Nat)} {ev : Operand → AV} {sv : Operand → SV} (he : ∀ o, SVR g H (sv o) (ev o)) : ∀ {ps : List (Nat × Operand)} {r : List (Nat × Nat × SV)}, partsS place (ps.map fun p => (p.1, sv p.2)) = some r →
    ∃ q, partsAt place (ps.map fun p => (p.1, ev p.2)) = some q ∧ PartsR g H r q
  | [], r, h => by cases h; exact ⟨[], rfl, .nil⟩
  | p :: ps, r, h => by
    simp only [List.map_cons, partsS] at h
    split at h
    · rename_i off size xs r' h1 h2 h3
      cases h
      obtain ⟨q, h4, h5⟩ := partsS_ok he h3
      obtain ⟨l, k1, k2, k3, k4⟩ := cellsSV_ok h2 (he p.2)
      exact ⟨(off, size, l) :: q, by simp only [List.map_cons, partsAt, h1, k1, h4], .cons k2 k4 h5⟩
    · cases h

theorem fillS_ok : ∀ {r : List (Nat × Nat × SV)} {q : List (Nat × Nat × List AV)} {c c' : SV} {l : List AV}, PartsR g H r q → c.okL = true → SVL g H c l → fillS c r = some c' → ∃ l', afill l q = some l' ∧ SVL g H c' l' ∧ c'.okL = true
  | [], _, c, c', l, .nil, hc, hl, h => by cases h; exact ⟨l, rfl, hl, hc⟩
  | (o, s, x) :: r, _, c, c', l, .cons (l := lx) (q := q) h1 h2 h3, hc, hl, h => by
    unfold fillS at h
    split at h
    · rename_i hh
      obtain ⟨k1, k2⟩ := spl_ok (off := o) hc h2 hl h1 (by omega)
      obtain ⟨l', k3, k4⟩ := fillS_ok h3 k2 k1 h
      refine ⟨l', ?_, k4⟩
      unfold afill
      rw [SVL.len (SV.okL_isL h2) h1, SVL.len (SV.okL_isL hc) hl, if_pos hh]
      exact k3
    · cases h

theorem vbuild_ok {t : TypeId} {s : SV} {ev : Operand → AV} {sv : Operand → SV} (he : ∀ o, SVR g H (sv o) (ev o)) {ps : List (Nat × Operand)} (hk : vbuild P t (ps.map fun p => (p.1, sv p.2)) = some s) :
    ∃ y, abuild P t (ps.map fun p => (p.1, ev p.2)) = some y ∧ SVR g H s y := by
  have fin : ∀ {z : SV} {r : List (Nat × Nat × SV)} {q : List (Nat × Nat × List AV)} {l : List AV}, z.okL = true → SVL g H z l → PartsR g H r q → (fillS z r).map (fun c => normA P t (.agg c)) = some s → ∃ y, (afill l q).map AV.agg = some y ∧ SVR g H s y := fun {z r q l} h1 h2 h3 h4 => by
    obtain ⟨c, h5, rfl⟩ := Option.map_eq_some_iff.1 h4
    obtain ⟨l', k1, k2, k3⟩ := fillS_ok h3 h1 h2 h5
    exact ⟨.agg l', by rw [k1]; rfl, normA_ok ⟨l', rfl, k2⟩⟩
  unfold vbuild at hk
  split at hk
  · rename_i z fs hz hu
    obtain ⟨x, l, z1, z2, z3, z4⟩ := zeroS_ok (g := g) (H := H) hz
    split at hk
    · rename_i pl hpl
      split at hk
      · rename_i r hr
        obtain ⟨q, q1, q2⟩ := partsS_ok he hr
        obtain ⟨y, y1, y2⟩ := fin z4 z3 q2 hk
        exact ⟨y, by simp only [abuild, z1, z2, hu, hpl, q1]; exact y1, y2⟩
      · cases hk
    · cases hk
  · rename_i z n e hz hu
    obtain ⟨x, l, z1, z2, z3, z4⟩ := zeroS_ok (g := g) (H := H) hz
    split at hk
    · rename_i size hsz
      split at hk
      · rename_i r hr
        obtain ⟨q, q1, q2⟩ := partsS_ok he hr
        obtain ⟨y, y1, y2⟩ := fin z4 z3 q2 hk
        exact ⟨y, by simp only [abuild, z1, z2, hu, hsz, q1]; exact y1, y2⟩
      · cases hk
    · cases hk
  · cases hk

/-! ### Maps -/
theorem idx_shift {κ ν : Type} [DecidableEq κ] (k : κ) : ∀ (es : List (κ × ν × Nat)) (i : Nat), GMap.idx k es i = (GMap.idx k es 0).map fun x => (x.1 + i, x.2)
  | [], _ => rfl
  | (k', v, b) :: es, i => by
    unfold GMap.idx
    split
    · simp
    · rw [idx_shift k es (i + 1), idx_shift k es (0 + 1), Option.map_map]
      congr 1
      funext x
      simp [Nat.add_assoc, Nat.add_comm 1 i]

theorem afind_rel {κ ν : Type} [DecidableEq κ] {d : Option TypeDesc} {R1 : AV → κ → Prop} {R2 : AV → ν → Prop} {x : AV} {k : κ} (hk : ∀ y b, R1 y b → akey d x y = some (decide (k = b))) :
    ∀ {es : List (AV × AV × Nat)} {fs : List (κ × ν × Nat)} (i : Nat), All2 (fun a b => R1 a.1 b.1 ∧ R2 a.2.1 b.2.1 ∧ a.2.2 = b.2.2) es fs →
      (GMap.idx k fs i = none ∧ afind d x es i = some none) ∨ ∃ j v b y, GMap.idx k fs i = some (j, v, b) ∧ afind d x es i = some (some (j, y, b)) ∧ R2 y v ∧ i ≤ j ∧ (∃ kx, es[j - i]? = some (kx, y, b))
  | [], [], i, _ => .inl ⟨rfl, rfl⟩
  | (kx, y, b) :: es, (k', v, b') :: fs, i, h => by
    obtain ⟨⟨h1, h2, rfl⟩, h3⟩ := h
    simp only at h1 h2
    simp only [afind, hk _ _ h1, GMap.idx]
    by_cases c : k = k'
    · right
      exact ⟨i, v, b, y, by simp [c], by simp [c], h2, Nat.le_refl _, kx, by simp⟩
    · simp only [c, decide_false, if_false]
      rcases afind_rel hk (i + 1) h3 with h4 | ⟨j, v', b', y', h4, h5, h6, h7, kx', h8⟩
      · exact .inl h4
      · refine .inr ⟨j, v', b', y', h4, h5, h6, by omega, kx', ?_⟩
        rw [show j - i = j - (i + 1) + 1 by omega, List.getElem?_cons_succ]; exact h8
  | [], _ :: _, _, h => h.elim
  | _ :: _, [], _, h => h.elim

theorem repI {k : IntKind} {n : Int} {x : AV} (h : RepV g (.int k) x n) : x = .int k n := by have := h.c1 rfl; simpa [RepC] using this
theorem repS {l : List UInt8} {x : AV} (h : RepV g .str x l) : x = .str l := by have := h.c1 rfl; simpa [RepC] using this
theorem repB {b : Bool} {x : AV} (h : RepV g .bool x b) : x = .bool b := by have := h.c1 rfl; simpa [RepC] using this

/-- What finding in a map says, by the kind of its key. -/
structure FindR (g : FM) (kt et : Ty) (d : Option TypeDesc) (x : AV) (k : kt.D) (m : GMap kt.D et.D) (es : List (AV × AV × Nat)) : Prop where
  ok : akeyOk d x = true
  no : mgetT kt m k = none → afind d x es 0 = some none ∧ ∀ v, msetT kt m k v = ⟨m.es ++ [(k, v, m.clock)], m.clock + 1⟩
  yes : ∀ v, mgetT kt m k = some v → ∃ j b y, afind d x es 0 = some (some (j, y, b)) ∧ RepV g et y v ∧ (∃ kx, es[j]? = some (kx, y, b)) ∧ ∀ w, msetT kt m k w = ⟨m.es.set j (k, w, b), m.clock⟩

theorem find_gen {κ : Type} [DecidableEq κ] {et : Ty} {d : Option TypeDesc} {R1 : AV → κ → Prop} {x : AV} {k : κ} (hk : ∀ y b, R1 y b → akey d x y = some (decide (k = b))) {m : GMap κ et.D} {es : List (AV × AV × Nat)}
    (h : All2 (fun a b => R1 a.1 b.1 ∧ RepV g et a.2.1 b.2.1 ∧ a.2.2 = b.2.2) es m.es) :
    (mget m k = none → afind d x es 0 = some none ∧ ∀ v, mset m k v = ⟨m.es ++ [(k, v, m.clock)], m.clock + 1⟩) ∧
    (∀ v, mget m k = some v → ∃ j b y, afind d x es 0 = some (some (j, y, b)) ∧ RepV g et y v ∧ (∃ kx, es[j]? = some (kx, y, b)) ∧ ∀ w, mset m k w = ⟨m.es.set j (k, w, b), m.clock⟩) := by
  rcases afind_rel (R2 := fun y v => RepV g et y v) hk 0 h with ⟨h1, h2⟩ | ⟨j, v, b, y, h1, h2, h3, h4, kx, h5⟩
  · refine ⟨fun _ => ⟨h2, fun v => by simp [mset, h1]⟩, fun v hv => ?_⟩
    simp [mget, h1] at hv
  · refine ⟨fun hn => by simp [mget, h1] at hn, fun v' hv => ?_⟩
    simp only [mget, h1, Option.map_some, Option.some.injEq] at hv
    subst hv
    rw [Nat.sub_zero] at h5
    refine ⟨j, b, y, h2, h3, ⟨kx, h5⟩, fun w => ?_⟩
    obtain ⟨⟨k2, v2, b2⟩, h6, h7⟩ := h.at1 h5
    simp only at h7
    obtain ⟨_, _, rfl⟩ := h7
    simp [mset, h1, h6]

theorem findR {kt et : Ty} {d : Option TypeDesc} (hk : KeyOk d kt = true) {x : AV} {k : kt.D} (hx : RepV g kt x k) {m : GMap kt.D et.D} {es : List (AV × AV × Nat)} (h : All2 (EntV g kt et) es m.es) : FindR g kt et d x k m es := by
  unfold KeyOk at hk
  split at hk
  · rename_i kk
    obtain rfl := repI hx
    obtain ⟨h1, h2⟩ := find_gen (g := g) (κ := Int) (d := some (.int _)) (x := .int kk (k : Int)) (R1 := fun y b => RepV g (.int kk) y b) (k := (k : Int)) (fun y b hy => by
      obtain rfl := repI hy
      simp only [akey, if_true, Option.some.injEq]; by_cases c : (k : Int) = b <;> simp [c]) h
    exact ⟨rfl, h1, h2⟩
  · obtain rfl := repS hx
    obtain ⟨h1, h2⟩ := find_gen (g := g) (κ := List UInt8) (d := some .string) (x := .str k) (R1 := fun y b => RepV g .str y b) (k := (k : List UInt8)) (fun y b hy => by
      obtain rfl := repS hy
      simp only [akey, Option.some.injEq]; by_cases c : (k : List UInt8) = b <;> simp [c]) h
    exact ⟨rfl, h1, h2⟩
  · obtain rfl := repB hx
    obtain ⟨h1, h2⟩ := find_gen (g := g) (κ := Bool) (d := some .bool) (x := .bool k) (R1 := fun y b => RepV g .bool y b) (k := (k : Bool)) (fun y b hy => by
      obtain rfl := repB hy
      simp only [akey, Option.some.injEq]; by_cases c : (k : Bool) = b <;> simp [c]) h
    exact ⟨rfl, h1, h2⟩
  · cases hk

theorem zeroT_ok {t : TypeId} {T : Ty} {v : T.D} (hz : zeroT P t T = some v) : ∃ x, zeroOf P t = some x ∧ RepV g T x v := by
  unfold zeroT at hz
  cases hv : (P.info? t).bind (·.zero) with
  | none => rw [hv] at hz; cases hz
  | some w =>
    rw [hv] at hz
    exact ⟨_, by simp only [zeroOf, hv, Option.map_some], toT_ok (g := g) (H := []) hz (litSV_ok w)⟩

theorem vlookup_ok (M : VMem h0 X g H S.os h) {t : TypeId} {a k : SV} {ok : Bool} {K : SV → Option R} {r : R} (hk : vlookup P S t a k ok K = some r) {x y : AV} (ha : SVR g H a x) (hy : SVR g H k y) :
    ∃ z s, alookup P t x y ok h = some z ∧ SVR g H s z ∧ K s = some r := by
  unfold vlookup at hk
  split at hk
  · rename_i kt et hm
    split at hk
    · rename_i n
      split at hk
      · rename_i Kt Et mm hos
        split at hk
        · rename_i kv z hkv hz
          split at hk
          · rename_i hko
            obtain ⟨id, h1, e⟩ := ha
            cases e
            obtain ⟨id', es, e, h2, h3⟩ := M.so n _ _ hos h1
            cases e
            have F := findR hko (toC_ok hkv hy) h3
            obtain ⟨zx, z1, z2⟩ := zeroT_ok (g := g) hz
            cases hg : mgetT Kt mm kv with
            | none =>
              rw [hg] at hk
              have f1 := (F.no hg).1
              split at hk
              · rename_i hok
                subst hok
                refine ⟨.tup [zx, .bool false], _, by simp [alookup, hm, amapGet, h2, F.ok, f1, z1], ?_, hk⟩
                exact ⟨_, rfl, _, _, rfl, ⟨_, rfl, z2⟩, _, _, rfl, ⟨_, rfl, rfl⟩, rfl⟩
              · rename_i hok
                refine ⟨zx, _, by simp [alookup, hm, amapGet, h2, F.ok, f1, z1, hok], ?_, hk⟩
                exact ⟨_, rfl, z2⟩
            | some v =>
              rw [hg] at hk
              obtain ⟨j, b, yv, f1, f2, _⟩ := F.yes v hg
              split at hk
              · rename_i hok
                subst hok
                refine ⟨.tup [yv, .bool true], _, by simp [alookup, hm, amapGet, h2, F.ok, f1], ?_, hk⟩
                exact ⟨_, rfl, _, _, rfl, ⟨_, rfl, f2⟩, _, _, rfl, ⟨_, rfl, rfl⟩, rfl⟩
              · rename_i hok
                refine ⟨yv, _, by simp [alookup, hm, amapGet, h2, F.ok, f1, hok], ?_, hk⟩
                exact ⟨_, rfl, f2⟩
          · cases hk
        · cases hk
      · cases hk
    · cases hk
  · cases hk
end
end Go.Proofs.YtlpiiifmidehjaaDoorM
