/- Functions that look at no memory stand for their calls; the chain of a seat's functions. -/
import Derived.Test.YtlpiiifmidehjaaDoorV17
set_option linter.unusedSimpArgs false
set_option linter.unusedVariables false
namespace Go.Proofs.YtlpiiifmidehjaaDoorM
open Go Go.RowKit

/-! ### Plain arguments and answers -/
def svOf1 : AV → SV
  | .int k n => .pv (.int k) n
  | .bool b => .pv .bool b
  | .str l => .pv .str l
  | _ => .dead
def svOf : AV → SV
  | .agg xs => .agg (SV.ofList (xs.map svOf1))
  | x => svOf1 x
def encC : (t : Ty) → t.D → List AV
  | .int k, n => [.int k n]
  | .bool, b => [.bool b]
  | .str, s => [.str s]
  | .cons a b, v => encC a v.1 ++ encC b v.2
  | _, _ => []
def encV (t : Ty) (v : t.D) : AV := if t.ag then .agg (encC t v) else (encC t v).headD .undef
def SV.enc : SV → List AV
  | .pv t v => [encV t v]
  | .kb b => [.bool b]
  | .tup s => [.tup s.enc]
  | .cn a b => a.enc ++ b.enc
  | _ => []
def SH.plain1 : SH → Bool
  | .pv t => t.flat
  | .kb _ => true
  | _ => false
def SH.plain : SH → Bool
  | .nl => true
  | .cn a b => a.plain1 && b.plain
  | _ => false
def SH.plainR : SH → Bool
  | .tup s => s.plain
  | s => s.plain1
def SH.plainP : SH → Bool
  | .pv t => t.flat
  | _ => false
def pureE (e : VEnt) : Bool := e.ps.os.isEmpty && e.ps.ts.all SH.plainP && (match e.rs with | [r] => r.os.isEmpty && (match r.ts with | [s] => s.plainR | _ => false) | _ => false)
def outAV (S : VS) : Option AV :=
  match S.ts with
  | [s] => (match s.enc with | [x] => some x | _ => none)
  | _ => none
def kOf (e : VEnt) (args : List AV) : Option AV := (e.ps.pack ⟨args.map svOf, []⟩).bind fun p => (e.F p).bind fun q => unpAlt e.rs q outAV

section
variable {g g' : FM} {H H' : List AV} {h h0 h' : AH} {X : List Nat}

theorem rep_enc : ∀ {t : Ty} {c : List AV} {v : t.D}, t.flat = true → RepC g t c v → c = encC t v
  | .int _, _, _, _, h => h
  | .bool, _, _, _, h => h
  | .str, _, _, _, h => h
  | .nil, _, _, _, h => h
  | .cons a b, _, _, hf, h => by
    simp only [Ty.flat, Bool.and_eq_true] at hf
    obtain ⟨c1, c2, rfl, h1, h2⟩ := h
    rw [rep_enc hf.1 h1, rep_enc hf.2 h2]; rfl
  | .lst _, _, _, hf, _ => by cases hf
  | .map _ _, _, _, hf, _ => by cases hf
theorem enc_rep : ∀ {t : Ty} {v : t.D}, t.flat = true → RepC g t (encC t v) v
  | .int _, _, _ => rfl
  | .bool, _, _ => rfl
  | .str, _, _ => rfl
  | .nil, _, _ => rfl
  | .cons a b, _, hf => by
    simp only [Ty.flat, Bool.and_eq_true] at hf
    exact ⟨_, _, rfl, enc_rep hf.1, enc_rep hf.2⟩
  | .lst _, _, hf => by cases hf
  | .map _ _, _, hf => by cases hf
theorem repV_enc {t : Ty} {x : AV} {v : t.D} (hf : t.flat = true) (h : RepV g t x v) : x = encV t v := by
  unfold RepV at h
  unfold encV
  split at h
  · rename_i ht; rw [if_pos ht]; obtain ⟨cs, rfl, h⟩ := h; rw [rep_enc hf h]
  · rename_i ht; rw [if_neg ht, ← rep_enc hf h]; rfl
theorem encV_rep {t : Ty} {v : t.D} (hf : t.flat = true) : RepV g t (encV t v) v := by
  have h := enc_rep (g := g) (v := v) hf
  unfold encV
  obtain ⟨h1, h2⟩ := RepV.ofC h
  split
  · rename_i ht; exact h1 ht
  · rename_i ht
    obtain ⟨x, hx, hv⟩ := h2 (by simpa using ht)
    rw [hx]; exact hv

theorem svOf1_ok (x : AV) : SVR g H (svOf1 x) x := by
  cases x <;> first | exact int_pv _ _ | exact bool_pv _ | exact str_pv _ | exact ⟨_, rfl⟩
theorem svOf_ok (x : AV) : SVR g H (svOf x) x := by
  cases x with
  | agg xs =>
    refine ⟨xs, rfl, ?_⟩
    have := SVL.ofList (g := g) (H := H) (f := svOf1) (e := id) svOf1_ok xs
    simpa using this
  | int k n => exact svOf1_ok (.int k n)
  | bool b => exact svOf1_ok (.bool b)
  | str l => exact svOf1_ok (.str l)
  | _ => exact ⟨_, rfl⟩

theorem toA_enc : ∀ {t : Ty} {v : t.D} {s : SV}, t.flat = true → toA t ((SV.ofList ((encC t v).map svOf1)).app s) = some (v, s)
  | .nil, v, s, _ => rfl
  | .int k, v, s, _ => by simp [encC, svOf1, SV.ofList, SV.app, toA, Ty.ag, toC, asT, castD]
  | .bool, v, s, _ => by simp [encC, svOf1, SV.ofList, SV.app, toA, Ty.ag, toC, asT, castD]
  | .str, v, s, _ => by simp [encC, svOf1, SV.ofList, SV.app, toA, Ty.ag, toC, asT, castD]
  | .cons a b, v, s, hf => by
    simp only [Ty.flat, Bool.and_eq_true] at hf
    have e : SV.ofList ((encC (.cons a b) v).map svOf1) = (SV.ofList ((encC a v.1).map svOf1)).app (SV.ofList ((encC b v.2).map svOf1)) := by
      simp only [encC, List.map_append]
      generalize (encC a v.1).map svOf1 = l
      induction l with
      | nil => rfl
      | cons x l ih => simp only [List.cons_append, SV.ofList, ih]; rfl
    have assoc : ∀ {x y z : SV}, x.isL = true → (x.app y).app z = x.app (y.app z) := fun {x y z} hx => by
      induction x with
      | nl => rfl
      | cn p q _ ih => simp only [SV.app]; rw [ih hx]
      | _ => cases hx
    rw [e, assoc (SV.isL_ofList _)]
    simp only [toA]
    rw [toA_enc (t := a) hf.1]
    simp only
    rw [toA_enc (t := b) hf.2]
  | .lst _, _, _, hf => by cases hf
  | .map _ _, _, _, hf => by cases hf
theorem toT_enc {t : Ty} {v : t.D} (hf : t.flat = true) : toT t (svOf (encV t v)) = some v := by
  unfold encV
  split
  · rename_i ht
    simp only [svOf, toT, ht, if_true]
    have := toA_enc (t := t) (v := v) (s := .nl) hf
    have e : (SV.ofList ((encC t v).map svOf1)).app .nl = SV.ofList ((encC t v).map svOf1) := by
      generalize (encC t v).map svOf1 = l
      induction l with
      | nil => rfl
      | cons x l ih => simp only [SV.ofList, SV.app, ih]
    rw [e] at this
    rw [this]
  · rename_i ht
    cases t <;> first | (cases hf; done) | (simp [Ty.ag] at ht; done) | simp [encC, svOf, svOf1, toT, toC, asT, castD]

theorem pack_args : ∀ {l : List SH} {r : Ty} {p : (tysOf l r).D} {args : List AV}, l.all SH.plainP = true → EnvR g H (unpL l p).1 args → packL l (args.map svOf) (unpL l p).2 = some p
  | [], r, p, args, _, E => by
    obtain rfl := List.eq_nil_of_length_eq_zero (show args.length = 0 from E.len)
    rfl
  | s :: l, r, p, args, hp, E => by
    simp only [List.all_cons, Bool.and_eq_true] at hp
    cases s <;> first | (cases hp.1; done) | skip
    rename_i t
    have e : unpL (.pv t :: l) p = (.pv t p.1 :: (unpL l p.2).1, (unpL l p.2).2) := rfl
    rw [e] at E ⊢
    cases args with
    | nil => have := E.len; simp at this
    | cons x args =>
      obtain ⟨y, e', hv⟩ := E.get 0 _ x rfl rfl
      cases e'
      have E' : EnvR g H (unpL l p.2).1 args := ⟨by have := E.len; simpa using this, fun d s' x' h1 h2 => E.get (d + 1) s' x' (by simpa using h1) (by simpa using h2)⟩
      have ih := pack_args hp.2 E'
      rw [repV_enc hp.1 hv]
      simp only [List.map_cons, packL, ih]
      show (match toT t (svOf (encV t p.1)) with | some x => some (x, p.2) | none => none) = some p
      rw [toT_enc hp.1]

theorem free_cells : ∀ {t : Ty} {c : List AV} {v : t.D}, t.flat = true → RepC g t c v → c.all free1 = true
  | .int _, _, _, _, h => by cases h; rfl
  | .bool, _, _, _, h => by cases h; rfl
  | .str, _, _, _, h => by cases h; rfl
  | .nil, _, _, _, h => by cases h; rfl
  | .cons a b, _, _, hf, h => by
    simp only [Ty.flat, Bool.and_eq_true] at hf
    obtain ⟨c1, c2, rfl, h1, h2⟩ := h
    rw [List.all_append, free_cells hf.1 h1, free_cells hf.2 h2]; rfl
  | .lst _, _, _, hf, _ => by cases hf
  | .map _ _, _, _, hf, _ => by cases hf
theorem free_rep {t : Ty} {x : AV} {v : t.D} (hf : t.flat = true) (h : RepV g t x v) : free2 x = true := by
  unfold RepV at h
  split at h
  · obtain ⟨cs, rfl, h⟩ := h; exact free_cells hf h
  · have := free_cells hf h
    simp only [List.all_cons, List.all_nil, Bool.and_true] at this
    unfold free2
    split
    · cases this
    · cases this
    · exact this
theorem plain1_enc {s : SH} {r : Ty} {q : (s.ty r).D} {l : List AV} (hp : s.plain1 = true) (h : SVL g H (s.unp q).1 l) : l = (s.unp q).1.enc ∧ ∃ x, l = [x] := by
  cases s <;> first | (cases hp; done) | skip
  · exact ⟨h, _, h⟩
  · rename_i t
    obtain ⟨x, rfl, hx⟩ := h
    exact ⟨by show [x] = [encV t q.1]; rw [repV_enc hp hx], _, rfl⟩
theorem enc_plain1 {s : SH} {r : Ty} {q : (s.ty r).D} (hp : s.plain1 = true) : SVL g H (s.unp q).1 (s.unp q).1.enc ∧ ∃ x, (s.unp q).1.enc = [x] ∧ free2 x = true := by
  cases s <;> first | (cases hp; done) | skip
  · exact ⟨rfl, _, rfl, rfl⟩
  · rename_i t
    refine ⟨⟨_, rfl, encV_rep hp⟩, _, rfl, ?_⟩
    exact free_rep (g := ⟨fun _ => none, fun _ => none, fun _ => False⟩) hp (encV_rep hp)
theorem plain_enc : ∀ {s : SH} {r : Ty} {q : (s.ty r).D} {l : List AV}, s.plain = true → SVL g H (s.unp q).1 l → l = (s.unp q).1.enc
  | .nl, r, q, l, hp, h => h
  | .cn a b, r, q, l, hp, h => by
    simp only [SH.plain, Bool.and_eq_true] at hp
    obtain ⟨x, xs, rfl, h1, h2⟩ := h
    show x :: xs = (a.unp q).1.enc ++ (b.unp (a.unp q).2).1.enc
    rw [← (plain1_enc hp.1 h1).1, ← plain_enc hp.2 h2]; rfl
theorem enc_plain : ∀ {s : SH} {r : Ty} {q : (s.ty r).D}, s.plain = true → SVL g H (s.unp q).1 (s.unp q).1.enc ∧ (s.unp q).1.enc.all free2 = true
  | .nl, r, q, hp => ⟨rfl, rfl⟩
  | .cn a b, r, q, hp => by
    simp only [SH.plain, Bool.and_eq_true] at hp
    obtain ⟨h1, x, hx, hf⟩ := enc_plain1 (g := g) (H := H) (s := a) (q := q) hp.1
    obtain ⟨h2, h3⟩ := enc_plain (s := b) (q := (a.unp q).2) hp.2
    refine ⟨⟨x, (b.unp (a.unp q).2).1.enc, ?_, by rw [← hx]; exact h1, h2⟩, ?_⟩
    · show (a.unp q).1.enc ++ _ = _; rw [hx]; rfl
    · show ((a.unp q).1.enc ++ (b.unp (a.unp q).2).1.enc).all free2 = true
      rw [hx, List.all_append, h3]; simp [hf]
theorem plainR_cases {s : SH} (hp : s.plainR = true) : (∃ s', s = .tup s' ∧ s'.plain = true) ∨ s.plain1 = true := by
  cases s <;> first | exact .inr hp | exact .inl ⟨_, rfl, hp⟩
/-- An answer of plain values. -/
theorem plainR_enc {s : SH} {r : Ty} {q : (s.ty r).D} {x : AV} (hp : s.plainR = true) (h : SVR g H (s.unp q).1 x) : (s.unp q).1.enc = [x] := by
  rcases plainR_cases hp with ⟨s, rfl, hp⟩ | hp
  · obtain ⟨xs, e, h⟩ := h
    cases e
    show [AV.tup (s.unp q).1.enc] = _
    rw [← plain_enc hp h]
  · exact (plain1_enc hp h).1.symm
theorem enc_plainR {s : SH} {r : Ty} {q : (s.ty r).D} (hp : s.plainR = true) : ∃ x, (s.unp q).1.enc = [x] ∧ SVR g H (s.unp q).1 x ∧ freeAV x = true := by
  rcases plainR_cases hp with ⟨s, rfl, hp⟩ | hp
  · obtain ⟨h1, h2⟩ := enc_plain (g := g) (H := H) (s := s) (q := q) hp
    exact ⟨.tup (s.unp q).1.enc, rfl, ⟨_, rfl, h1⟩, h2⟩
  · obtain ⟨h1, x, hx, hf⟩ := enc_plain1 (g := g) (H := H) (q := q) hp
    refine ⟨x, hx, by rw [hx] at h1; exact h1, ?_⟩
    unfold freeAV
    split
    · cases hf
    · exact hf
end
end Go.Proofs.YtlpiiifmidehjaaDoorM
