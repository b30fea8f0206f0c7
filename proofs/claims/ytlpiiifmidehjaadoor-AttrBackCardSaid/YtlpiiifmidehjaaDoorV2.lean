/- Values of the value machine: what constants and operands are, plain values out of them, and cells. -/
import Derived.Test.YtlpiiifmidehjaaDoorV1
set_option linter.unusedSimpArgs false
set_option linter.unusedVariables false
namespace Go.Proofs.YtlpiiifmidehjaaDoorM
open Go Go.RowKit

/-! ### How results go on: really, or only to see which ways out there are -/
structure Md (R : Type) where
  real : Bool
  mrg : R → R → R

section
variable {R α : Type}
def vbind (m : Md R) (d : α) (x : Option α) (k : α → Option R) : Option R := bif m.real then oBind x k else k d
def vcond (m : Md R) (b : Bool) (x y : Option R) : Option R :=
  bif m.real then (oCond b x y) else
  match x, y with
  | some a, some c => some (m.mrg a c)
  | some a, none => some a
  | none, y => y
theorem vbind_ok {m : Md R} (hm : m.real = true) {d : α} {x : Option α} {k : α → Option R} {r : R} (h : vbind m d x k = some r) : ∃ a, x = some a ∧ k a = some r := by
  unfold vbind at h
  rw [hm] at h
  exact obind h
theorem vcond_ok {m : Md R} (hm : m.real = true) {b : Bool} {x y : Option R} {r : R} (h : vcond m b x y = some r) : (b = true ∧ x = some r) ∨ (b = false ∧ y = some r) := by
  unfold vcond at h
  rw [hm] at h
  cases b
  · exact .inr ⟨rfl, h⟩
  · exact .inl ⟨rfl, h⟩
end

/-! ### Constants and operands -/
def cellSV : Value → SV
  | .int k n => .pv (.int k) n
  | .bool b => .kb b
  | .string s => .pv .str s.data.toList
  | v => .con (ofCell v)
def litSV : Value → SV
  | .agg cs => .agg (SV.ofList (cs.toList.map cellSV))
  | .tuple _ => .dead
  | v => cellSV v

/-- Told variables: an array of such elements. -/
structure GVar where
  g : Nat
  t : Ty
  l : List t.D
def gfind (n : Nat) : List GVar → Option GVar
  | [] => none
  | x :: xs => if x.g = n then some x else gfind n xs
def GOK (g : FM) (gl : List GVar) : Prop := ∀ x ∈ gl, ∃ xs, g.v x.g = some xs.flatten ∧ All2 (RepC g x.t) xs x.l
theorem GOK.mono {g g' : FM} (hg : g.le g') {gl : List GVar} (h : GOK g gl) : GOK g' gl := fun x hx => let ⟨xs, h1, h2⟩ := h x hx; ⟨xs, hg.v _ _ h1, h2.mono fun _ _ => RepC.mono hg⟩
theorem GOK.reb {g : FM} {B : Nat → Prop} {gl : List GVar} (h : GOK g gl) : GOK ⟨g.c, g.v, B⟩ gl := fun x hx => let ⟨xs, h1, h2⟩ := h x hx; ⟨xs, h1, h2.mono fun _ _ => RepC.reb⟩
theorem gfind_mem {n : Nat} {x : GVar} : ∀ {l : List GVar}, gfind n l = some x → x ∈ l ∧ x.g = n
  | [], h => by cases h
  | y :: l, h => by
    unfold gfind at h
    split at h
    · cases h; exact ⟨List.mem_cons_self .., by assumption⟩
    · obtain ⟨h1, h2⟩ := gfind_mem h; exact ⟨List.mem_cons_of_mem _ h1, h2⟩

def evS (gl : List GVar) (S : VS) : Operand → SV
  | .tmp t => S.ts.getD t .dead
  | .const v => litSV v
  | .global g => match gfind g gl with
    | some x => .gpt g x.t x.l
    | none => .con (.val (.pointer (some ⟨g, 0, none⟩)))
  | .func f => .fn f .nl .nl

section
variable {g : FM} {H : List AV}
theorem cellSV_ok (v : Value) : SVR g H (cellSV v) (ofCell v) := by
  cases v with
  | int k n => exact ⟨_, rfl, rfl⟩
  | bool b => exact rfl
  | string s => exact ⟨_, rfl, rfl⟩
  | _ => exact rfl
theorem litSV_ok (v : Value) : SVR g H (litSV v) (ofValue v) := by
  cases v with
  | agg cs => exact ⟨_, rfl, by
      have := SVL.ofList (g := g) (H := H) (f := cellSV) (e := ofCell) cellSV_ok cs.toList
      exact this⟩
  | tuple _ => exact ⟨_, rfl⟩
  | int k n => exact cellSV_ok (.int k n)
  | bool b => exact cellSV_ok (.bool b)
  | string s => exact cellSV_ok (.string s)
  | _ => exact rfl

theorem evS_ok {gl : List GVar} (hG : GOK g gl) {S : VS} {env : List AV} (E : EnvR g H S.ts env) (o : Operand) : SVR g H (evS gl S o) (evalOp env o) := by
  cases o with
  | tmp t =>
    show SVR g H (S.ts.getD t .dead) (env.getD t .undef)
    rw [List.getD_eq_getElem?_getD, List.getD_eq_getElem?_getD]
    cases h1 : S.ts[t]? with
    | none => exact ⟨_, rfl⟩
    | some s =>
      have hlt := lt_at h1
      have h2 : env[t]? = some (env[t]'(by rw [E.len]; exact hlt)) := List.getElem?_eq_getElem (by rw [E.len]; exact hlt)
      rw [h2]
      exact E.get t s _ h1 h2
  | const v => exact litSV_ok v
  | global n =>
    show SVR g H (match gfind n gl with | some x => .gpt n x.t x.l | none => .con (.val (.pointer (some ⟨n, 0, none⟩)))) (.val (.pointer (some ⟨n, 0, none⟩)))
    split
    · rename_i x hx
      obtain ⟨h1, rfl⟩ := gfind_mem hx
      obtain ⟨xs, h2, h3⟩ := hG x h1
      exact ⟨rfl, xs, h2, h3⟩
    · exact rfl
  | func f => exact ⟨[], [], rfl, rfl, rfl⟩
end

/-! ### Plain values -/
/-- The value of a cell of a plain type. -/
def toC (t : Ty) : SV → Option t.D
  | .pv t' v => asT t' t v
  | .kb b => asT .bool t b
  | .con (.val (.slice none 0 0)) => match t with
    | .lst e => some ([] : List e.D)
    | _ => none
  | _ => none
def toA : (t : Ty) → SV → Option (t.D × SV)
  | .nil, s => some ((), s)
  | .cons a b, s => match toA a s with
    | some (x, s') => match toA b s' with
      | some (y, s'') => some ((x, y), s'')
      | none => none
    | none => none
  | t, .cn a s => match t.ag, toC t a with
    | false, some x => some (x, s)
    | _, _ => none
  | _, _ => none
def toT (t : Ty) : SV → Option t.D
  | .agg s => if t.ag then (match toA t s with | some (x, .nl) => some x | _ => none) else none
  | s => toC t s

section
variable {g : FM} {H : List AV}
theorem asT_ok {t t' : Ty} {v : t.D} {v' : t'.D} (h : asT t t' v = some v') {x : AV} (hr : RepV g t x v) : RepV g t' x v' := by
  unfold asT at h
  split at h
  · rename_i e; cases h; exact hr.cast e
  · cases h
theorem RepV.bool (b : Bool) : RepV g .bool (.bool b) b := rfl
theorem toC_ok {t : Ty} {s : SV} {v : t.D} (h : toC t s = some v) {x : AV} (hr : SVR g H s x) : RepV g t x v := by
  unfold toC at h
  split at h
  · obtain ⟨y, e, hv⟩ := hr; cases e; exact asT_ok h hv
  · cases hr; exact asT_ok h (RepV.bool _)
  · cases hr
    split at h
    · cases h; exact ⟨_, rfl, .inl ⟨rfl, rfl⟩⟩
    · cases h
  · cases h
theorem RepV.c1 {t : Ty} (ht : t.ag = false) {x : AV} {v : t.D} (h : RepV g t x v) : RepC g t [x] v := by unfold RepV at h; rwa [if_neg (by simp [ht])] at h
theorem toA_ok : ∀ {t : Ty} {s : SV} {v : t.D} {s' : SV} {l : List AV}, toA t s = some (v, s') → SVL g H s l → ∃ c1 c2, l = c1 ++ c2 ∧ RepC g t c1 v ∧ SVL g H s' c2
  | .nil, s, v, s', l, h, hr => by unfold toA at h; cases h; exact ⟨[], l, rfl, rfl, hr⟩
  | .cons a b, s, v, s', l, h, hr => by
    unfold toA at h
    split at h
    · rename_i x s1 h1
      split at h
      · rename_i y s2 h2
        cases h
        obtain ⟨c1, c2, rfl, k1, k2⟩ := toA_ok h1 hr
        obtain ⟨c3, c4, rfl, k3, k4⟩ := toA_ok h2 k2
        exact ⟨c1 ++ c3, c4, by simp, ⟨c1, c3, rfl, k1, k3⟩, k4⟩
      · cases h
    · cases h
  | .int k, s, v, s', l, h, hr => by
    cases s <;> simp only [toA] at h <;> first | (cases h; done) | skip
    obtain ⟨x, xs, rfl, h1, h2⟩ := hr
    split at h
    · cases h; exact ⟨[x], xs, rfl, (toC_ok ‹_› h1).c1 rfl, h2⟩
    · cases h
  | .bool, s, v, s', l, h, hr => by
    cases s <;> simp only [toA] at h <;> first | (cases h; done) | skip
    obtain ⟨x, xs, rfl, h1, h2⟩ := hr
    split at h
    · cases h; exact ⟨[x], xs, rfl, (toC_ok ‹_› h1).c1 rfl, h2⟩
    · cases h
  | .str, s, v, s', l, h, hr => by
    cases s <;> simp only [toA] at h <;> first | (cases h; done) | skip
    obtain ⟨x, xs, rfl, h1, h2⟩ := hr
    split at h
    · cases h; exact ⟨[x], xs, rfl, (toC_ok ‹_› h1).c1 rfl, h2⟩
    · cases h
  | .lst e, s, v, s', l, h, hr => by
    cases s <;> simp only [toA] at h <;> first | (cases h; done) | skip
    obtain ⟨x, xs, rfl, h1, h2⟩ := hr
    split at h
    · cases h; exact ⟨[x], xs, rfl, (toC_ok ‹_› h1).c1 rfl, h2⟩
    · cases h
  | .map _ _, s, v, s', l, h, hr => by
    cases s <;> simp only [toA] at h <;> first | (cases h; done) | skip
    obtain ⟨x, xs, rfl, h1, h2⟩ := hr
    split at h
    · cases h; exact ⟨[x], xs, rfl, (toC_ok ‹_› h1).c1 rfl, h2⟩
    · cases h
theorem toT_ok {t : Ty} {s : SV} {v : t.D} (h : toT t s = some v) {x : AV} (hr : SVR g H s x) : RepV g t x v := by
  unfold toT at h
  split at h
  · split at h
    · rename_i ht
      split at h
      · rename_i y h1
        cases h
        obtain ⟨xs, e, hx⟩ := hr
        cases e
        obtain ⟨c1, c2, rfl, k1, k2⟩ := toA_ok h1 hx
        cases k2
        rw [List.append_nil]
        exact (RepV.ofC k1).1 ht
      · cases h
    · cases h
  · exact toC_ok h hr
end

/-! ### Cells -/
def flatT : (t : Ty) → t.D → SV → SV
  | .nil, _, r => r
  | .cons a b, v, r => flatT a v.1 (flatT b v.2 r)
  | t, v, r => .cn (.pv t v) r
/-- The cells of a value. -/
def cellsSV : SV → Option SV
  | .agg s => if s.okL then some s else none
  | .pv t v => if t.ag then some (flatT t v .nl) else some (.cn (.pv t v) .nl)
  | s => if s.okC then some (.cn s .nl) else none

section
variable {g : FM} {H : List AV}
theorem SV.okC_one {s : SV} (h : s.okC = true) {x : AV} (hr : SVR g H s x) : x.one = true := by
  cases s with
  | pv t v =>
    obtain ⟨y, e, hv⟩ := hr
    cases e
    have ht : t.ag = false := by simpa [SV.okC] using h
    have := (hv.c1 ht).ones
    simpa using this
  | con c => cases hr; exact h
  | kb b => cases hr; rfl
  | ptr k o => obtain ⟨id, _, e⟩ := hr; cases e; rfl
  | row k => obtain ⟨y, _, e, rfl | ⟨_, _, _, _, rfl⟩⟩ := hr <;> cases e <;> rfl
  | view k a b => obtain ⟨_, _, ⟨id, off, n, sz, _, _, e⟩ | ⟨_, _, _, e⟩⟩ := hr <;> cases e <;> rfl
  | ept k i o => obtain ⟨_, id, off, n, sz, _, _, e⟩ := hr; cases e; rfl
  | fpt t v o => obtain ⟨id, off, c, e, _⟩ | ⟨id, off, c, e, _⟩ := hr <;> cases e <;> rfl
  | gpt n t l => obtain ⟨e, _⟩ := hr; cases e; rfl
  | mp k => obtain ⟨id, _, e⟩ := hr; cases e; rfl
  | fn f a b => obtain ⟨xs, ys, e, _⟩ := hr; cases e; rfl
  | ifc t a => obtain ⟨y, e, _⟩ := hr; cases e; rfl
  | _ => cases h
theorem SV.okL_isL : ∀ {s : SV}, s.okL = true → s.isL = true
  | .nl, _ => rfl
  | .cn a b, h => by simp only [SV.okL, Bool.and_eq_true] at h; exact SV.okL_isL (s := b) h.2
theorem SVL.ones : ∀ {s : SV} {l : List AV}, s.okL = true → SVL g H s l → l.all AV.one = true
  | .nl, _, _, h => by cases h; rfl
  | .cn a b, _, ho, h => by
    obtain ⟨x, xs, rfl, h1, h2⟩ := h
    simp only [SV.okL, Bool.and_eq_true] at ho
    simp only [List.all_cons, SV.okC_one ho.1 h1, SVL.ones ho.2 h2, Bool.and_self]
theorem flatT_ok : ∀ {t : Ty} {v : t.D} {c : List AV} {r : SV} {l : List AV}, RepC g t c v → SVL g H r l → SVL g H (flatT t v r) (c ++ l)
  | .nil, _, _, _, _, h, k => by cases h; exact k
  | .cons a b, v, _, r, l, h, k => by
    obtain ⟨c1, c2, rfl, h1, h2⟩ := h
    unfold flatT
    rw [List.append_assoc]
    exact flatT_ok h1 (flatT_ok h2 k)
  | .int _, _, _, _, _, h, k => by cases h; exact ⟨_, _, rfl, ⟨_, rfl, rfl⟩, k⟩
  | .bool, _, _, _, _, h, k => by cases h; exact ⟨_, _, rfl, ⟨_, rfl, rfl⟩, k⟩
  | .str, _, _, _, _, h, k => by cases h; exact ⟨_, _, rfl, ⟨_, rfl, rfl⟩, k⟩
  | .lst e, _, _, _, _, h, k => by
    have h0 := h
    obtain ⟨x, rfl, h⟩ := h
    exact ⟨_, _, rfl, ⟨x, rfl, h0⟩, k⟩
  | .map _ _, _, _, _, _, h, k => h.elim
theorem flatT_okL : ∀ {t : Ty} {v : t.D} {r : SV}, r.okL = true → (flatT t v r).okL = true
  | .nil, _, _, k => k
  | .cons a b, v, _, k => flatT_okL (t := a) (flatT_okL (t := b) k)
  | .int _, _, _, k => by simp [flatT, SV.okL, SV.okC, Ty.ag, k]
  | .bool, _, _, k => by simp [flatT, SV.okL, SV.okC, Ty.ag, k]
  | .str, _, _, k => by simp [flatT, SV.okL, SV.okC, Ty.ag, k]
  | .lst e, _, _, k => by simp [flatT, SV.okL, SV.okC, Ty.ag, k]
  | .map _ _, _, _, k => by simp [flatT, SV.okL, SV.okC, Ty.ag, k]

theorem cellsSV_ok {s cs : SV} (h : cellsSV s = some cs) {x : AV} (hr : SVR g H s x) : ∃ l, x.cells = some l ∧ SVL g H cs l ∧ l.all AV.one = true ∧ cs.okL = true := by
  have one : ∀ {s : SV}, s.okC = true → SVR g H s x → ∃ l, x.cells = some l ∧ SVL g H (.cn s .nl) l ∧ l.all AV.one = true ∧ (SV.cn s .nl).okL = true := fun {s} hs hr => by
    have ho := SV.okC_one hs hr
    refine ⟨[x], ?_, ⟨x, [], rfl, hr, rfl⟩, by simp [ho], by simp [SV.okL, hs]⟩
    unfold AV.cells
    split
    · cases ho
    · rw [if_pos ho]
  unfold cellsSV at h
  split at h
  · split at h
    · rename_i ho
      cases h
      obtain ⟨xs, e, hx⟩ := hr
      cases e
      exact ⟨xs, rfl, hx, SVL.ones ho hx, ho⟩
    · cases h
  · rename_i t v
    split at h
    · rename_i ht
      cases h
      obtain ⟨y, e, hv⟩ := hr
      cases e
      obtain ⟨c, h1, h2⟩ := hv.cells
      refine ⟨c, h1, ?_, h2.ones, flatT_okL rfl⟩
      have := flatT_ok (H := H) (r := .nl) (l := []) h2 rfl
      simpa using this
    · rename_i ht
      cases h
      exact one (by simp [SV.okC, ht]) hr
  · split at h
    · rename_i ho; cases h; exact one ho hr
    · cases h
end
end Go.Proofs.YtlpiiifmidehjaaDoorM
