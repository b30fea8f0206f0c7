/- Shapes of states: what is known ahead of the run; states packed into plain tuples, and unpacked. -/
import Derived.Test.YtlpiiifmidehjaaDoorV9
set_option linter.unusedSimpArgs false
set_option linter.unusedVariables false
namespace Go.Proofs.YtlpiiifmidehjaaDoorM
open Go Go.RowKit

inductive SH where
  | dead | un
  | con (c : Nat)
  | kb (b : Bool)
  | pv (t : Ty)
  | ptr (k off : Nat)
  | row (k : Nat)
  | view (k : Nat)
  | ept (k o : Nat)
  | fpt (t : Ty) (o : Nat)
  | mp (k : Nat)
  | fn (f : FuncId) (a b : SH)
  | ifc (t : TypeId) (x : SH)
  | tup (x : SH)
  | agg (x : SH)
  | nl
  | cn (a b : SH)
  deriving DecidableEq, Inhabited

inductive SOH where
  | gone
  | obj (t : TypeId) (cs : SH)
  | row (e : TypeId) (t : Ty)
  | map (kt et : Ty)
  | sit
  deriving DecidableEq, Inhabited

structure Sh where
  ts : List SH
  os : List SOH
  deriving DecidableEq, Inhabited

/-- Constants that shapes speak of. -/
def conV : Nat → AV
  | 0 => .val (.slice none 0 0)
  | 1 => .val (.pointer none)
  | 2 => .val (.map none)
  | 3 => .val .nilFunc
  | _ => .val .nilIface
def conC : AV → Option Nat
  | .val (.slice none 0 0) => some 0
  | .val (.pointer none) => some 1
  | .val (.map none) => some 2
  | .val .nilFunc => some 3
  | .val .nilIface => some 4
  | _ => none
theorem conC_ok {x : AV} {c : Nat} (h : conC x = some c) : x = conV c := by
  unfold conC at h
  split at h <;> cases h <;> rfl

def SV.isV : SV → Bool
  | .nl => false
  | .cn _ _ => false
  | _ => true

/-! ### Tuples -/
abbrev SH.ty : SH → Ty → Ty
  | .pv t, r => .cons t r
  | .view _, r => .cons (.int .i64) (.cons (.int .i64) r)
  | .ept _ _, r => .cons (.int .i64) r
  | .fpt t _, r => .cons t r
  | .fn _ a b, r => a.ty (b.ty r)
  | .ifc _ s, r => s.ty r
  | .tup s, r => s.ty r
  | .agg s, r => s.ty r
  | .cn a b, r => a.ty (b.ty r)
  | _, r => r
def SH.pack : (s : SH) → SV → {r : Ty} → r.D → Option (s.ty r).D
  | .dead, x, _, v => if x.isV then some v else none
  | .un, .un, _, v => some v
  | .con c, .con x, _, v => if conC x = some c then some v else none
  | .kb b, .kb b', _, v => if b = b' then some v else none
  | .pv t, s, _, v => match toT t s with
    | some x => some (x, v)
    | none => none
  | .ptr k o, .ptr k' o', _, v => if k = k' ∧ o = o' then some v else none
  | .row k, .row k', _, v => if k = k' then some v else none
  | .view k, .view k' a b, _, v => if k = k' then some (a, b, v) else none
  | .ept k o, .ept k' i o', _, v => if k = k' ∧ o = o' then some (i, v) else none
  | .fpt t o, .fpt t' x o', _, v => if o = o' then (match asT t' t x with | some x => some (x, v) | none => none) else none
  | .mp k, .mp k', _, v => if k = k' then some v else none
  | .fn f a b, .fn f' a' b', _, v => if f = f' then (match b.pack b' v with | some w => a.pack a' w | none => none) else none
  | .ifc t s, .ifc t' s', _, v => if t = t' then s.pack s' v else none
  | .tup s, .tup s', _, v => s.pack s' v
  | .agg s, .agg s', _, v => s.pack s' v
  | .nl, .nl, _, v => some v
  | .cn a b, .cn a' b', _, v => match b.pack b' v with | some w => a.pack a' w | none => none
  | _, _, _, _ => none
def SH.unp : (s : SH) → {r : Ty} → (s.ty r).D → SV × r.D
  | .dead, _, v => (.dead, v)
  | .un, _, v => (.un, v)
  | .con c, _, v => (.con (conV c), v)
  | .kb b, _, v => (.kb b, v)
  | .pv t, _, v => (.pv t v.1, v.2)
  | .ptr k o, _, v => (.ptr k o, v)
  | .row k, _, v => (.row k, v)
  | .view k, _, v => (.view k v.1 v.2.1, v.2.2)
  | .ept k o, _, v => (.ept k v.1 o, v.2)
  | .fpt t o, _, v => (.fpt t v.1 o, v.2)
  | .mp k, _, v => (.mp k, v)
  | .fn f a b, _, v => (.fn f (a.unp v).1 (b.unp (a.unp v).2).1, (b.unp (a.unp v).2).2)
  | .ifc t s, _, v => (.ifc t (s.unp v).1, (s.unp v).2)
  | .tup s, _, v => (.tup (s.unp v).1, (s.unp v).2)
  | .agg s, _, v => (.agg (s.unp v).1, (s.unp v).2)
  | .nl, _, v => (.nl, v)
  | .cn a b, _, v => (.cn (a.unp v).1 (b.unp (a.unp v).2).1, (b.unp (a.unp v).2).2)

abbrev tysOf : List SH → Ty → Ty
  | [], r => r
  | s :: l, r => s.ty (tysOf l r)
def packL : (l : List SH) → List SV → {r : Ty} → r.D → Option (tysOf l r).D
  | [], [], _, v => some v
  | s :: l, x :: xs, _, v => match packL l xs v with
    | some w => s.pack x w
    | none => none
  | _, _, _, _ => none
def unpL : (l : List SH) → {r : Ty} → (tysOf l r).D → List SV × r.D
  | [], _, v => ([], v)
  | s :: l, _, v => ((s.unp v).1 :: (unpL l (s.unp v).2).1, (unpL l (s.unp v).2).2)

abbrev SOH.ty : SOH → Ty → Ty
  | .gone, r => r
  | .obj _ cs, r => cs.ty r
  | .row _ t, r => .cons (.lst t) r
  | .map k e, r => .cons (.map k e) r
  | .sit, r => .cons .str (.cons (.int .i64) r)
def SH.okC : SH → Bool
  | .pv t => !t.ag
  | .con _ | .kb _ | .ptr _ _ | .row _ | .view _ | .ept _ _ | .fpt _ _ | .mp _ | .fn _ _ _ | .ifc _ _ => true
  | _ => false
def SH.okL : SH → Bool
  | .nl => true
  | .cn a b => a.okC && b.okL
  | _ => false
def asMap (kt et kt' et' : Ty) (m : GMap kt.D et.D) : Option (GMap kt'.D et'.D) := asT (.map kt et) (.map kt' et') m
def SOH.pack : (s : SOH) → Option SO → {r : Ty} → r.D → Option (s.ty r).D
  | .gone, _, _, v => some v
  | .obj t cs, some (.obj t' cs'), _, v => if t = t' ∧ cs.okL = true then cs.pack cs' v else none
  | .row e t, some (.row e' t' l), _, v => if e = e' then (match asT (.lst t') (.lst t) l with | some l => some (l, v) | none => none) else none
  | .map k e, some (.map k' e' m), _, v => match asMap k' e' k e m with | some m => some (m, v) | none => none
  | .sit, some (.sit s p), _, v => some (s, p, v)
  | _, _, _, _ => none
def SOH.unp : (s : SOH) → {r : Ty} → (s.ty r).D → Option SO × r.D
  | .gone, _, v => (none, v)
  | .obj t cs, _, v => (some (.obj t (cs.unp v).1), (cs.unp v).2)
  | .row e t, _, v => (some (.row e t v.1), v.2)
  | .map k e, _, v => (some (.map k e v.1), v.2)
  | .sit, _, v => (some (.sit v.1 v.2.1), v.2.2)
abbrev otysOf : List SOH → Ty → Ty
  | [], r => r
  | s :: l, r => s.ty (otysOf l r)
def opackL : (l : List SOH) → List (Option SO) → {r : Ty} → r.D → Option (otysOf l r).D
  | [], [], _, v => some v
  | s :: l, x :: xs, _, v => match opackL l xs v with
    | some w => s.pack x w
    | none => none
  | _, _, _, _ => none
def ounpL : (l : List SOH) → {r : Ty} → (otysOf l r).D → List (Option SO) × r.D
  | [], _, v => ([], v)
  | s :: l, _, v => ((s.unp v).1 :: (ounpL l (s.unp v).2).1, (ounpL l (s.unp v).2).2)

abbrev Sh.ty (s : Sh) : Ty := tysOf s.ts (otysOf s.os .nil)
abbrev Sh.D (s : Sh) : Type := s.ty.D
def Sh.pack (s : Sh) (S : VS) : Option s.D :=
  match opackL s.os S.os (r := .nil) () with
  | some w => packL s.ts S.ts w
  | none => none
def Sh.unp (s : Sh) (p : s.D) : VS := ⟨(unpL s.ts p).1, (ounpL s.os (unpL s.ts p).2).1⟩

section
variable {g g' : FM} {H : List AV} {env : List AV} {h h0 h' : AH} {X : List Nat} {S : VS}

theorem SVL.one {x : SV} {l : List AV} (hx : x.isV = true) (h : SVL g H x l) : ∃ y, l = [y] := by
  cases x with
  | nl => cases hx
  | cn a b => cases hx
  | dead => exact h
  | un => exact ⟨_, h⟩
  | con c => exact ⟨_, h⟩
  | kb b => exact ⟨_, h⟩
  | pv t v => obtain ⟨x, e, _⟩ := h; exact ⟨_, e⟩
  | ptr k o => obtain ⟨id, _, e⟩ := h; exact ⟨_, e⟩
  | row k => obtain ⟨y, _, e, _⟩ := h; exact ⟨_, e⟩
  | view k a b => obtain ⟨_, _, ⟨_, _, _, _, _, _, e⟩ | ⟨_, _, _, e⟩⟩ := h <;> exact ⟨_, e⟩
  | ept k i o => obtain ⟨_, _, _, _, _, _, _, e⟩ := h; exact ⟨_, e⟩
  | fpt t v o => obtain ⟨_, _, _, e, _⟩ | ⟨_, _, _, e, _⟩ := h <;> exact ⟨_, e⟩
  | gpt n t l => obtain ⟨e, _⟩ := h; exact ⟨_, e⟩
  | mp k => obtain ⟨_, _, e⟩ := h; exact ⟨_, e⟩
  | fn f a b => obtain ⟨_, _, e, _⟩ := h; exact ⟨_, e⟩
  | ifc t s => obtain ⟨_, e, _⟩ := h; exact ⟨_, e⟩
  | tup s => obtain ⟨_, e, _⟩ := h; exact ⟨_, e⟩
  | agg s => obtain ⟨_, e, _⟩ := h; exact ⟨_, e⟩

theorem toT_isV {t : Ty} {s : SV} {v : t.D} (h : toT t s = some v) : s.isV = true := by
  cases s <;> first | rfl | (simp [toT, toC] at h)

theorem SH.pack_ok : ∀ {s : SH} {x : SV} {r : Ty} {v : r.D} {p : (s.ty r).D} {l : List AV}, s.pack x v = some p → SVL g H x l → SVL g H (s.unp p).1 l ∧ (s.unp p).2 = v
  | .dead, x, r, v, p, l, hp, hl => by
    unfold SH.pack at hp
    split at hp
    · rename_i hx; cases hp; exact ⟨SVL.one hx hl, rfl⟩
    · cases hp
  | .pv t, x, r, v, p, l, hp, hl => by
    unfold SH.pack at hp
    split at hp
    · rename_i w hw
      cases hp
      obtain ⟨y, rfl⟩ := SVL.one (toT_isV hw) hl
      exact ⟨⟨y, rfl, toT_ok hw hl⟩, rfl⟩
    · cases hp
  | .un, x, r, v, p, l, hp, hl => by
    cases x <;> simp only [SH.pack] at hp <;> first | (cases hp; done) | skip
    cases hp; exact ⟨hl, rfl⟩
  | .con c, x, r, v, p, l, hp, hl => by
    cases x <;> simp only [SH.pack] at hp <;> first | (cases hp; done) | skip
    split at hp
    · rename_i hc; cases hp; obtain rfl := conC_ok hc; exact ⟨hl, rfl⟩
    · cases hp
  | .kb b, x, r, v, p, l, hp, hl => by
    cases x <;> simp only [SH.pack] at hp <;> first | (cases hp; done) | skip
    split at hp
    · rename_i hc; cases hp; subst hc; exact ⟨hl, rfl⟩
    · cases hp
  | .ptr k o, x, r, v, p, l, hp, hl => by
    cases x <;> simp only [SH.pack] at hp <;> first | (cases hp; done) | skip
    split at hp
    · rename_i hc; cases hp; obtain ⟨rfl, rfl⟩ := hc; exact ⟨hl, rfl⟩
    · cases hp
  | .row k, x, r, v, p, l, hp, hl => by
    cases x <;> simp only [SH.pack] at hp <;> first | (cases hp; done) | skip
    split at hp
    · rename_i hc; cases hp; subst hc; exact ⟨hl, rfl⟩
    · cases hp
  | .view k, x, r, v, p, l, hp, hl => by
    cases x <;> simp only [SH.pack] at hp <;> first | (cases hp; done) | skip
    split at hp
    · rename_i hc; cases hp; subst hc; exact ⟨hl, rfl⟩
    · cases hp
  | .ept k o, x, r, v, p, l, hp, hl => by
    cases x <;> simp only [SH.pack] at hp <;> first | (cases hp; done) | skip
    split at hp
    · rename_i hc; cases hp; obtain ⟨rfl, rfl⟩ := hc; exact ⟨hl, rfl⟩
    · cases hp
  | .fpt t o, x, r, v, p, l, hp, hl => by
    cases x <;> simp only [SH.pack] at hp <;> first | (cases hp; done) | skip
    split at hp
    · rename_i hc
      subst hc
      split at hp
      · rename_i y hy
        unfold asT at hy
        split at hy
        · rename_i e; subst e; cases hy; cases hp; exact ⟨hl, rfl⟩
        · cases hy
      · cases hp
    · cases hp
  | .mp k, x, r, v, p, l, hp, hl => by
    cases x <;> simp only [SH.pack] at hp <;> first | (cases hp; done) | skip
    split at hp
    · rename_i hc; cases hp; subst hc; exact ⟨hl, rfl⟩
    · cases hp
  | .fn f a b, x, r, v, p, l, hp, hl => by
    cases x <;> simp only [SH.pack] at hp <;> first | (cases hp; done) | skip
    split at hp
    · rename_i hc
      subst hc
      split at hp
      · rename_i w hw
        obtain ⟨xs, ys, rfl, h1, h2⟩ := hl
        obtain ⟨k1, k2⟩ := SH.pack_ok hp h1
        obtain ⟨k3, k4⟩ := SH.pack_ok hw h2
        refine ⟨⟨xs, ys, rfl, k1, ?_⟩, ?_⟩
        · rw [k2]; exact k3
        · show (b.unp (a.unp p).2).2 = v
          rw [k2]; exact k4
      · cases hp
    · cases hp
  | .ifc t s, x, r, v, p, l, hp, hl => by
    cases x <;> simp only [SH.pack] at hp <;> first | (cases hp; done) | skip
    split at hp
    · rename_i hc; subst hc; obtain ⟨y, rfl, h1⟩ := hl; obtain ⟨k1, k2⟩ := SH.pack_ok hp h1; exact ⟨⟨y, rfl, k1⟩, k2⟩
    · cases hp
  | .tup s, x, r, v, p, l, hp, hl => by
    cases x <;> simp only [SH.pack] at hp <;> first | (cases hp; done) | skip
    obtain ⟨y, rfl, h1⟩ := hl; obtain ⟨k1, k2⟩ := SH.pack_ok hp h1; exact ⟨⟨y, rfl, k1⟩, k2⟩
  | .agg s, x, r, v, p, l, hp, hl => by
    cases x <;> simp only [SH.pack] at hp <;> first | (cases hp; done) | skip
    obtain ⟨y, rfl, h1⟩ := hl; obtain ⟨k1, k2⟩ := SH.pack_ok hp h1; exact ⟨⟨y, rfl, k1⟩, k2⟩
  | .nl, x, r, v, p, l, hp, hl => by
    cases x <;> simp only [SH.pack] at hp <;> first | (cases hp; done) | skip
    cases hp; exact ⟨hl, rfl⟩
  | .cn a b, x, r, v, p, l, hp, hl => by
    cases x <;> simp only [SH.pack] at hp <;> first | (cases hp; done) | skip
    split at hp
    · rename_i w hw
      obtain ⟨y, ys, rfl, h1, h2⟩ := hl
      obtain ⟨k1, k2⟩ := SH.pack_ok hp h1
      obtain ⟨k3, k4⟩ := SH.pack_ok hw h2
      refine ⟨⟨y, ys, rfl, k1, ?_⟩, ?_⟩
      · rw [k2]; exact k3
      · show (b.unp (a.unp p).2).2 = v
        rw [k2]; exact k4
    · cases hp

theorem SH.okC_unp : ∀ {s : SH} {r : Ty} (p : (s.ty r).D), s.okC = true → (s.unp p).1.okC = true := fun {s r} p h => by
  cases s <;> first | (cases h; done) | rfl | skip
  · rename_i c
    rcases c with _ | _ | _ | _ | c <;> rfl
  · exact h
theorem SH.okL_unp : ∀ {s : SH} {r : Ty} (p : (s.ty r).D), s.okL = true → (s.unp p).1.okL = true
  | .nl, r, p, h => rfl
  | .cn a b, r, p, h => by
    simp only [SH.okL, Bool.and_eq_true] at h
    show ((a.unp p).1.okC && (b.unp (a.unp p).2).1.okL) = true
    rw [SH.okC_unp (s := a) p h.1, SH.okL_unp (s := b) _ h.2]; rfl

theorem SH.pack_snd : ∀ {s : SH} {x : SV} {r : Ty} {v : r.D} {p : (s.ty r).D}, s.pack x v = some p → (s.unp p).2 = v
  | .dead, x, r, v, p, hp => by
    unfold SH.pack at hp
    split at hp
    · cases hp; rfl
    · cases hp
  | .pv t, x, r, v, p, hp => by
    unfold SH.pack at hp
    split at hp
    · cases hp; rfl
    · cases hp
  | .un, x, r, v, p, hp => by
    cases x <;> simp only [SH.pack] at hp <;> first | (cases hp; done) | skip
    cases hp; rfl
  | .con c, x, r, v, p, hp => by
    cases x <;> simp only [SH.pack] at hp <;> first | (cases hp; done) | skip
    split at hp
    · cases hp; rfl
    · cases hp
  | .kb b, x, r, v, p, hp => by
    cases x <;> simp only [SH.pack] at hp <;> first | (cases hp; done) | skip
    split at hp
    · cases hp; rfl
    · cases hp
  | .ptr k o, x, r, v, p, hp => by
    cases x <;> simp only [SH.pack] at hp <;> first | (cases hp; done) | skip
    split at hp
    · cases hp; rfl
    · cases hp
  | .row k, x, r, v, p, hp => by
    cases x <;> simp only [SH.pack] at hp <;> first | (cases hp; done) | skip
    split at hp
    · cases hp; rfl
    · cases hp
  | .view k, x, r, v, p, hp => by
    cases x <;> simp only [SH.pack] at hp <;> first | (cases hp; done) | skip
    split at hp
    · cases hp; rfl
    · cases hp
  | .ept k o, x, r, v, p, hp => by
    cases x <;> simp only [SH.pack] at hp <;> first | (cases hp; done) | skip
    split at hp
    · cases hp; rfl
    · cases hp
  | .fpt t o, x, r, v, p, hp => by
    cases x <;> simp only [SH.pack] at hp <;> first | (cases hp; done) | skip
    split at hp
    · split at hp
      · cases hp; rfl
      · cases hp
    · cases hp
  | .mp k, x, r, v, p, hp => by
    cases x <;> simp only [SH.pack] at hp <;> first | (cases hp; done) | skip
    split at hp
    · cases hp; rfl
    · cases hp
  | .fn f a b, x, r, v, p, hp => by
    cases x <;> simp only [SH.pack] at hp <;> first | (cases hp; done) | skip
    split at hp
    · split at hp
      · rename_i w hw
        show (b.unp (a.unp p).2).2 = v
        rw [SH.pack_snd hp]; exact SH.pack_snd hw
      · cases hp
    · cases hp
  | .ifc t s, x, r, v, p, hp => by
    cases x <;> simp only [SH.pack] at hp <;> first | (cases hp; done) | skip
    split at hp
    · exact SH.pack_snd (s := s) hp
    · cases hp
  | .tup s, x, r, v, p, hp => by
    cases x <;> simp only [SH.pack] at hp <;> first | (cases hp; done) | skip
    exact SH.pack_snd (s := s) hp
  | .agg s, x, r, v, p, hp => by
    cases x <;> simp only [SH.pack] at hp <;> first | (cases hp; done) | skip
    exact SH.pack_snd (s := s) hp
  | .nl, x, r, v, p, hp => by
    cases x <;> simp only [SH.pack] at hp <;> first | (cases hp; done) | skip
    cases hp; rfl
  | .cn a b, x, r, v, p, hp => by
    cases x <;> simp only [SH.pack] at hp <;> first | (cases hp; done) | skip
    split at hp
    · rename_i w hw
      show (b.unp (a.unp p).2).2 = v
      rw [SH.pack_snd hp]; exact SH.pack_snd hw
    · cases hp

theorem packL_ok : ∀ {l : List SH} {xs : List SV} {r : Ty} {v : r.D} {p : (tysOf l r).D}, packL l xs v = some p → (unpL l p).1.length = xs.length ∧ (unpL l p).2 = v ∧ ∀ (i : Nat) (s a : SV), (unpL l p).1[i]? = some s → xs[i]? = some a → ∀ c, SVL g H a c → SVL g H s c
  | [], [], r, v, p, hp => by cases hp; exact ⟨rfl, rfl, fun i s a h => by simp [unpL] at h⟩
  | s :: l, x :: xs, r, v, p, hp => by
    unfold packL at hp
    split at hp
    · rename_i w hw
      obtain ⟨h1, h2, h3⟩ := packL_ok hw
      have hk : (s.unp p).2 = w ∧ ∀ c, SVL g H x c → SVL g H (s.unp p).1 c := by
        refine ⟨?_, fun c hc => (SH.pack_ok hp hc).1⟩
        exact SH.pack_snd hp
      have e : unpL (s :: l) p = ((s.unp p).1 :: (unpL l (s.unp p).2).1, (unpL l (s.unp p).2).2) := rfl
      rw [e, hk.1]
      refine ⟨by simp [h1], h2, fun i t a ht ha c hc => ?_⟩
      cases i with
      | zero => simp at ht ha; subst ht; subst ha; exact hk.2 c hc
      | succ i => exact h3 i t a (by simpa using ht) (by simpa using ha) c hc
    · cases hp

theorem SOH.pack_ok {s : SOH} {x : Option SO} {r : Ty} {v : r.D} {p : (s.ty r).D} (hp : s.pack x v = some p) :
    (s.unp p).2 = v ∧ ∀ o', (s.unp p).1 = some o' → ∃ o, x = some o ∧ ∀ y, SOR g H h o y → SOR g H h o' y := by
  cases s with
  | gone => cases hp; exact ⟨rfl, fun o' ho => by cases ho⟩
  | obj t cs =>
    rcases x with _ | x
    · simp only [SOH.pack] at hp; cases hp
    cases x <;> simp only [SOH.pack] at hp <;> first | (cases hp; done) | skip
    · split at hp
      · rename_i hc
        obtain ⟨rfl, hc⟩ := hc
        refine ⟨SH.pack_snd hp, fun o' ho => ⟨_, rfl, fun y hy => ?_⟩⟩
        cases ho
        obtain ⟨id, c, h1, h2, h3, h4⟩ := hy
        exact ⟨id, c, h1, h2, (SH.pack_ok hp h3).1, SH.okL_unp _ hc⟩
      · cases hp
  | row e t =>
    rcases x with _ | x
    · simp only [SOH.pack] at hp; cases hp
    cases x <;> simp only [SOH.pack] at hp <;> first | (cases hp; done) | skip
    · split at hp
      · rename_i hc
        subst hc
        split at hp
        · rename_i l hl
          cases hp
          obtain ⟨rfl, rfl⟩ := asL_ok hl
          exact ⟨rfl, fun o' ho => ⟨_, rfl, fun y hy => by cases ho; exact hy⟩⟩
        · cases hp
      · cases hp
  | map k e =>
    rcases x with _ | x
    · simp only [SOH.pack] at hp; cases hp
    cases x <;> simp only [SOH.pack] at hp <;> first | (cases hp; done) | skip
    · split at hp
      · rename_i m hm
        cases hp
        unfold asMap asT at hm
        split at hm
        · rename_i e5
          cases e5
          cases hm
          exact ⟨rfl, fun o' ho => ⟨_, rfl, fun y hy => by cases ho; exact hy⟩⟩
        · cases hm
      · cases hp
  | sit =>
    rcases x with _ | x
    · simp only [SOH.pack] at hp; cases hp
    cases x <;> simp only [SOH.pack] at hp <;> first | (cases hp; done) | skip
    · cases hp
      exact ⟨rfl, fun o' ho => ⟨_, rfl, fun y hy => by cases ho; exact hy⟩⟩

theorem opackL_ok : ∀ {l : List SOH} {xs : List (Option SO)} {r : Ty} {v : r.D} {p : (otysOf l r).D}, opackL l xs v = some p → (ounpL l p).1.length = xs.length ∧ (ounpL l p).2 = v ∧ ∀ (i : Nat) (o' : SO), (ounpL l p).1[i]? = some (some o') → ∃ o, xs[i]? = some (some o) ∧ ∀ y, SOR g H h o y → SOR g H h o' y
  | [], [], r, v, p, hp => by cases hp; exact ⟨rfl, rfl, fun i s h => by simp [ounpL] at h⟩
  | s :: l, x :: xs, r, v, p, hp => by
    unfold opackL at hp
    split at hp
    · rename_i w hw
      obtain ⟨h1, h2, h3⟩ := opackL_ok hw
      obtain ⟨k1, k2⟩ := SOH.pack_ok (g := g) (H := H) (h := h) hp
      have e : ounpL (s :: l) p = ((s.unp p).1 :: (ounpL l (s.unp p).2).1, (ounpL l (s.unp p).2).2) := rfl
      rw [e, k1]
      refine ⟨by simp [h1], h2, fun i o' ho => ?_⟩
      cases i with
      | zero => simp at ho; obtain ⟨o, rfl, ho'⟩ := k2 o' ho; exact ⟨o, rfl, ho'⟩
      | succ i => exact h3 i o' (by simpa using ho)
    · cases hp

/-- Less is told of some slots. -/
theorem VMem.less {os os' : List (Option SO)} (M : VMem h0 X g H os h) (hl : os'.length = os.length) (hs : ∀ (i : Nat) (o' : SO), os'[i]? = some (some o') → ∃ o, os[i]? = some (some o) ∧ ∀ y, SOR g H h o y → SOR g H h o' y) : VMem h0 X g H os' h := by
  refine ⟨M.n, M.old, M.fz, by rw [hl]; exact M.hl, fun j o x h1 h2 => ?_, fun j o x i h1 h2 h3 => ?_, M.gx, fun j o x j' o' x' i h1 h2 h3 h4 h5 h6 => ?_⟩
  · obtain ⟨o1, k1, k2⟩ := hs j o h1; exact k2 x (M.so j o1 x k1 h2)
  · obtain ⟨o1, k1, k2⟩ := hs j o h1; exact M.own j o1 x i k1 h2 h3
  · obtain ⟨o1, k1, k2⟩ := hs j o h1
    obtain ⟨o2, k3, k4⟩ := hs j' o' h3
    exact M.nd j o1 x j' o2 x' i k1 h2 k3 h4 h5 h6

theorem Sh.pack_ok {s : Sh} {S : VS} {p : s.D} (hp : s.pack S = some p) (M : VMem h0 X g H S.os h) (E : EnvR g H S.ts env) : VMem h0 X g H (s.unp p).os h ∧ EnvR g H (s.unp p).ts env := by
  unfold Sh.pack at hp
  split at hp
  · rename_i w hw
    obtain ⟨h1, h2, h3⟩ := packL_ok (g := g) (H := H) hp
    obtain ⟨k1, k2, k3⟩ := opackL_ok (g := g) (H := H) (h := h) hw
    refine ⟨M.less ?_ ?_, ⟨?_, fun d s' x e1 e2 => ?_⟩⟩
    · show (ounpL s.os (unpL s.ts p).2).1.length = _; rw [h2]; exact k1
    · show ∀ (i : Nat) (o' : SO), (ounpL s.os (unpL s.ts p).2).1[i]? = some (some o') → _
      rw [h2]; exact k3
    · show env.length = (unpL s.ts p).1.length; rw [h1]; exact E.len
    · have e1' : (unpL s.ts p).1[d]? = some s' := e1
      have hlt := lt_at e1'
      rw [h1] at hlt
      have e3 := List.getElem?_eq_getElem hlt
      exact h3 d s' _ e1' e3 [x] (E.get d _ x e3 e2)
  · cases hp
end
end Go.Proofs.YtlpiiifmidehjaaDoorM
