/- The value machine's state, and how it stands to the abstract machine's. -/
import Derived.Test.YtlpiiifmidehjaaDoorV0
set_option linter.unusedSimpArgs false
set_option linter.unusedVariables false
namespace Go.Proofs.YtlpiiifmidehjaaDoorM
open Go Go.RowKit

/-- What is known of a value. nl and cn are lists of such. -/
inductive SV where
  | dead
  | un
  | con (x : AV)
  | kb (b : Bool)
  | pv (t : Ty) (v : t.D)
  | ptr (k off : Nat)
  | row (k : Nat)
  | view (k : Nat) (a b : Int)
  | ept (k : Nat) (i : Int) (o : Nat)
  | fpt (t : Ty) (v : t.D) (o : Nat)
  | gpt (g : Nat) (t : Ty) (l : List t.D)
  | mp (k : Nat)
  | fn (f : FuncId) (a b : SV)
  | ifc (t : TypeId) (x : SV)
  | tup (x : SV)
  | agg (x : SV)
  | nl
  | cn (a b : SV)

instance : Inhabited SV := ⟨.dead⟩

inductive SO where
  | obj (t : TypeId) (cs : SV)
  | row (e : TypeId) (t : Ty) (l : List t.D)
  | map (kt et : Ty) (m : GMap kt.D et.D)
  | sit (s : List UInt8) (p : Int)

structure VS where
  ts : List SV
  os : List (Option SO)

/-! ### Lists of them -/
def SV.nth : SV → Nat → Option SV
  | .cn a _, 0 => some a
  | .cn _ b, n + 1 => b.nth n
  | _, _ => none
def SV.len : SV → Nat
  | .cn _ b => b.len + 1
  | _ => 0
def SV.drp : SV → Nat → SV
  | s, 0 => s
  | .cn _ b, n + 1 => b.drp n
  | _, _ + 1 => .nl
def SV.tk : SV → Nat → SV
  | _, 0 => .nl
  | .cn a b, n + 1 => .cn a (b.tk n)
  | _, _ + 1 => .nl
def SV.app : SV → SV → SV
  | .cn a b, s => .cn a (b.app s)
  | _, s => s
def SV.ofList : List SV → SV
  | [] => .nl
  | a :: l => .cn a (SV.ofList l)

def SV.okC : SV → Bool
  | .pv t _ => !t.ag
  | .con c => c.one
  | .kb _ | .ptr _ _ | .row _ | .view _ _ _ | .ept _ _ _ | .fpt _ _ _ | .gpt _ _ _ | .mp _ | .fn _ _ _ | .ifc _ _ => true
  | _ => false
def SV.okL : SV → Bool
  | .nl => true
  | .cn a b => a.okC && b.okL
  | _ => false

/-! ### The relation -/
def hid : AV → Option Nat
  | .ptr id _ => some id
  | .sl id _ _ _ => some id
  | .map id => some id
  | _ => none

section
variable (g : FM) (H : List AV)
/-- Such values are so known: one, or a list. -/
def SVL : SV → List AV → Prop
  | .dead, l => ∃ x, l = [x]
  | .un, l => l = [.undef]
  | .con c, l => l = [c]
  | .kb b, l => l = [.bool b]
  | .pv t v, l => ∃ x, l = [x] ∧ RepV g t x v
  | .ptr k off, l => ∃ id, H[k]? = some (.ptr id 0) ∧ l = [.ptr id off]
  | .row k, l => ∃ x, H[k]? = some x ∧ l = [x] ∧ (x = nilS ∨ ∃ id off n sz, x = .sl id off n sz)
  | .view k a b, l => 0 ≤ a ∧ a ≤ b ∧ ((∃ id off n sz, H[k]? = some (.sl id off n sz) ∧ b ≤ n ∧ l = [.sl id (off + a.toNat * sz) (b.toNat - a.toNat) sz]) ∨ (H[k]? = some nilS ∧ a = 0 ∧ b = 0 ∧ l = [nilS]))
  | .ept k i o, l => 0 ≤ i ∧ ∃ id off n sz, H[k]? = some (.sl id off n sz) ∧ i < n ∧ l = [.ptr id (off + i.toNat * sz + o)]
  | .fpt t v o, l => ((∃ id off c, l = [.ptr id (off + o)] ∧ g.c id = some c ∧ off + t.size ≤ c.length ∧ RepC g t ((c.drop off).take t.size) v) ∨
      (∃ id off c, l = [.val (.pointer (some ⟨id, off + o, none⟩))] ∧ g.v id = some c ∧ off + t.size ≤ c.length ∧ RepC g t ((c.drop off).take t.size) v))
  | .gpt n t zs, l => l = [.val (.pointer (some ⟨n, 0, none⟩))] ∧ ∃ xs, g.v n = some xs.flatten ∧ All2 (RepC g t) xs zs
  | .mp k, l => ∃ id, H[k]? = some (.map id) ∧ l = [.map id]
  | .fn f a b, l => ∃ xs ys, l = [.func (.func f) xs ys] ∧ SVL a xs ∧ SVL b ys
  | .ifc t s, l => ∃ x, l = [.iface t x] ∧ SVL s [x]
  | .tup s, l => ∃ xs, l = [.tup xs] ∧ SVL s xs
  | .agg s, l => ∃ xs, l = [.agg xs] ∧ SVL s xs
  | .nl, l => l = []
  | .cn a b, l => ∃ x xs, l = x :: xs ∧ SVL a [x] ∧ SVL b xs

def SVR (s : SV) (x : AV) : Prop := SVL g H s [x]

def EntV (kt et : Ty) (a : AV × AV × Nat) (b : kt.D × et.D × Nat) : Prop := RepV g kt a.1 b.1 ∧ RepV g et a.2.1 b.2.1 ∧ a.2.2 = b.2.2

def SOR (h : AH) : SO → AV → Prop
  | .obj t cs, x => ∃ id c, x = .ptr id 0 ∧ h.get id = some (.cells c true 0 (some (t, true))) ∧ SVL g H cs c ∧ cs.okL = true
  | .row e t l, x => (x = nilS ∧ l = []) ∨ ∃ id off c xs, x = .sl id off l.length t.size ∧ h.get id = some (.cells c true 0 (some (e, false))) ∧ off + l.length * t.size ≤ c.length ∧ (c.drop off).take (l.length * t.size) = xs.flatten ∧ All2 (RepC g t) xs l
  | .map kt et m, x => ∃ id es, x = .map id ∧ h.get id = some (.map es m.clock) ∧ All2 (EntV g kt et) es m.es
  | .sit s p, x => ∃ id, x = .ptr id 0 ∧ 0 ≤ p ∧ h.get id = some (.siter s p.toNat)
end

variable {g g' : FM} {H H' : List AV}

def Hpre (H H' : List AV) : Prop := ∀ (k : Nat) (x : AV), H[k]? = some x → H'[k]? = some x
theorem Hpre.refl (H : List AV) : Hpre H H := fun _ _ h => h
theorem Hpre.trans {A B C : List AV} (h : Hpre A B) (k : Hpre B C) : Hpre A C := fun i x hx => k i x (h i x hx)
theorem Hpre.add (H : List AV) (x : AV) : Hpre H (H ++ [x]) := fun k y h => by
  have hk : k < H.length := by
    rcases Nat.lt_or_ge k H.length with h' | h'
    · exact h'
    · rw [List.getElem?_eq_none h'] at h; cases h
  rw [List.getElem?_append_left hk]; exact h

theorem EntV.mono (hg : g.le g') {kt et : Ty} {a : AV × AV × Nat} {b : kt.D × et.D × Nat} (h : EntV g kt et a b) : EntV g' kt et a b := ⟨h.1.mono hg, h.2.1.mono hg, h.2.2⟩

theorem SVL.mono (hg : g.le g') (hH : Hpre H H') : ∀ {s : SV} {l : List AV}, SVL g H s l → SVL g' H' s l
  | .dead, _, h => h
  | .un, _, h => h
  | .con _, _, h => h
  | .kb _, _, h => h
  | .pv t v, _, h => by obtain ⟨x, rfl, h⟩ := h; exact ⟨x, rfl, h.mono hg⟩
  | .ptr k off, _, h => by obtain ⟨id, h1, h2⟩ := h; exact ⟨id, hH _ _ h1, h2⟩
  | .row k, _, h => by obtain ⟨x, h1, h2⟩ := h; exact ⟨x, hH _ _ h1, h2⟩
  | .view k a b, _, h => by
    obtain ⟨h1, h2, h3⟩ := h
    refine ⟨h1, h2, ?_⟩
    rcases h3 with ⟨id, n, sz, hz, h3, h4⟩ | ⟨h3, h4⟩
    · exact .inl ⟨id, n, sz, hz, hH _ _ h3, h4⟩
    · exact .inr ⟨hH _ _ h3, h4⟩
  | .ept k i o, _, h => by obtain ⟨h0, id, off, n, sz, h1, h2⟩ := h; exact ⟨h0, id, off, n, sz, hH _ _ h1, h2⟩
  | .fpt t v o, _, h => by
    rcases h with ⟨id, off, c, h1, h2, h3, h4⟩ | ⟨id, off, c, h1, h2, h3, h4⟩
    · exact .inl ⟨id, off, c, h1, hg.c _ _ h2, h3, h4.mono hg⟩
    · exact .inr ⟨id, off, c, h1, hg.v _ _ h2, h3, h4.mono hg⟩
  | .gpt n t zs, _, h => by obtain ⟨h1, xs, h2, h3⟩ := h; exact ⟨h1, xs, hg.v _ _ h2, h3.mono fun c v => RepC.mono hg⟩
  | .mp k, _, h => by obtain ⟨x, h1, h2⟩ := h; exact ⟨x, hH _ _ h1, h2⟩
  | .fn f a b, _, h => by obtain ⟨xs, ys, h1, h2, h3⟩ := h; exact ⟨xs, ys, h1, SVL.mono hg hH h2, SVL.mono hg hH h3⟩
  | .ifc t s, _, h => by obtain ⟨x, h1, h2⟩ := h; exact ⟨x, h1, SVL.mono hg hH h2⟩
  | .tup s, _, h => by obtain ⟨xs, h1, h2⟩ := h; exact ⟨xs, h1, SVL.mono hg hH h2⟩
  | .agg s, _, h => by obtain ⟨xs, h1, h2⟩ := h; exact ⟨xs, h1, SVL.mono hg hH h2⟩
  | .nl, _, h => h
  | .cn a b, _, h => by obtain ⟨x, xs, h1, h2, h3⟩ := h; exact ⟨x, xs, h1, SVL.mono hg hH h2, SVL.mono hg hH h3⟩

theorem SVL.reb {B : Nat → Prop} : ∀ {s : SV} {l : List AV}, SVL g H s l → SVL ⟨g.c, g.v, B⟩ H s l
  | .dead, _, h => h
  | .un, _, h => h
  | .con _, _, h => h
  | .kb _, _, h => h
  | .pv t v, _, h => by obtain ⟨x, rfl, h⟩ := h; exact ⟨x, rfl, h.reb⟩
  | .ptr k off, _, h => h
  | .row k, _, h => h
  | .view k a b, _, h => h
  | .ept k i o, _, h => h
  | .fpt t v o, _, h => by
    rcases h with ⟨id, off, c, h1, h2, h3, h4⟩ | ⟨id, off, c, h1, h2, h3, h4⟩
    · exact .inl ⟨id, off, c, h1, h2, h3, h4.reb⟩
    · exact .inr ⟨id, off, c, h1, h2, h3, h4.reb⟩
  | .gpt n t zs, _, h => by obtain ⟨h1, xs, h2, h3⟩ := h; exact ⟨h1, xs, h2, h3.mono fun c v => RepC.reb⟩
  | .mp k, _, h => h
  | .fn f a b, _, h => by obtain ⟨xs, ys, h1, h2, h3⟩ := h; exact ⟨xs, ys, h1, SVL.reb h2, SVL.reb h3⟩
  | .ifc t s, _, h => by obtain ⟨x, h1, h2⟩ := h; exact ⟨x, h1, SVL.reb h2⟩
  | .tup s, _, h => by obtain ⟨xs, h1, h2⟩ := h; exact ⟨xs, h1, SVL.reb h2⟩
  | .agg s, _, h => by obtain ⟨xs, h1, h2⟩ := h; exact ⟨xs, h1, SVL.reb h2⟩
  | .nl, _, h => h
  | .cn a b, _, h => by obtain ⟨x, xs, h1, h2, h3⟩ := h; exact ⟨x, xs, h1, SVL.reb h2, SVL.reb h3⟩

theorem SVR.mono (hg : g.le g') (hH : Hpre H H') {s : SV} {x : AV} (h : SVR g H s x) : SVR g' H' s x := SVL.mono hg hH h

/-! ### Lists -/
theorem SVL.nth : ∀ {s : SV} {l : List AV} {i : Nat} {a : SV}, SVL g H s l → s.nth i = some a → ∃ x, l[i]? = some x ∧ SVR g H a x
  | .cn a b, _, 0, _, h, hn => by obtain ⟨x, xs, rfl, h1, h2⟩ := h; cases hn; exact ⟨x, rfl, h1⟩
  | .cn a b, _, i + 1, _, h, hn => by obtain ⟨x, xs, rfl, h1, h2⟩ := h; obtain ⟨y, k1, k2⟩ := SVL.nth h2 hn; exact ⟨y, by simpa using k1, k2⟩
  | .dead, _, _, _, _, hn => by simp [SV.nth] at hn
  | .un, _, _, _, _, hn => by simp [SV.nth] at hn
  | .con _, _, _, _, _, hn => by simp [SV.nth] at hn
  | .kb _, _, _, _, _, hn => by simp [SV.nth] at hn
  | .pv _ _, _, _, _, _, hn => by simp [SV.nth] at hn
  | .ptr _ _, _, _, _, _, hn => by simp [SV.nth] at hn
  | .row _, _, _, _, _, hn => by simp [SV.nth] at hn
  | .view _ _ _, _, _, _, _, hn => by simp [SV.nth] at hn
  | .ept _ _ _, _, _, _, _, hn => by simp [SV.nth] at hn
  | .fpt _ _ _, _, _, _, _, hn => by simp [SV.nth] at hn
  | .gpt _ _ _, _, _, _, _, hn => by simp [SV.nth] at hn
  | .mp _, _, _, _, _, hn => by simp [SV.nth] at hn
  | .fn _ _ _, _, _, _, _, hn => by simp [SV.nth] at hn
  | .ifc _ _, _, _, _, _, hn => by simp [SV.nth] at hn
  | .tup _, _, _, _, _, hn => by simp [SV.nth] at hn
  | .agg _, _, _, _, _, hn => by simp [SV.nth] at hn
  | .nl, _, _, _, _, hn => by simp [SV.nth] at hn

/-- Is it such a list? -/
def SV.isL : SV → Bool
  | .nl => true
  | .cn _ b => b.isL
  | _ => false

theorem SVL.len : ∀ {s : SV} {l : List AV}, s.isL = true → SVL g H s l → l.length = s.len
  | .nl, _, _, h => by cases h; rfl
  | .cn a b, _, hl, h => by obtain ⟨x, xs, rfl, h1, h2⟩ := h; simp [SV.len, SVL.len (s := b) hl h2]
  | .dead, _, hl, _ => by cases hl
  | .un, _, hl, _ => by cases hl
  | .con _, _, hl, _ => by cases hl
  | .kb _, _, hl, _ => by cases hl
  | .pv _ _, _, hl, _ => by cases hl
  | .ptr _ _, _, hl, _ => by cases hl
  | .row _, _, hl, _ => by cases hl
  | .view _ _ _, _, hl, _ => by cases hl
  | .ept _ _ _, _, hl, _ => by cases hl
  | .fpt _ _ _, _, hl, _ => by cases hl
  | .gpt _ _ _, _, hl, _ => by cases hl
  | .mp _, _, hl, _ => by cases hl
  | .fn _ _ _, _, hl, _ => by cases hl
  | .ifc _ _, _, hl, _ => by cases hl
  | .tup _, _, hl, _ => by cases hl
  | .agg _, _, hl, _ => by cases hl

theorem SVL.drp : ∀ {n : Nat} {s : SV} {l : List AV}, s.isL = true → n ≤ s.len → SVL g H s l → SVL g H (s.drp n) (l.drop n)
  | 0, s, l, _, _, h => by simpa [SV.drp] using h
  | n + 1, .cn a b, _, hl, hn, h => by
    obtain ⟨x, xs, rfl, h1, h2⟩ := h
    simp only [SV.drp, List.drop_succ_cons]
    exact SVL.drp (s := b) hl (by simp [SV.len] at hn; omega) h2
  | n + 1, .nl, _, hl, hn, h => by simp [SV.len] at hn
theorem SVL.tk : ∀ {n : Nat} {s : SV} {l : List AV}, s.isL = true → n ≤ s.len → SVL g H s l → SVL g H (s.tk n) (l.take n)
  | 0, s, l, _, _, h => by cases s <;> simp [SV.tk, SVL]
  | n + 1, .cn a b, _, hl, hn, h => by
    obtain ⟨x, xs, rfl, h1, h2⟩ := h
    exact ⟨x, xs.take n, rfl, h1, SVL.tk (s := b) hl (by simp [SV.len] at hn; omega) h2⟩
  | n + 1, .nl, _, hl, hn, h => by simp [SV.len] at hn
theorem SVL.app : ∀ {s s' : SV} {l l' : List AV}, s.isL = true → SVL g H s l → SVL g H s' l' → SVL g H (s.app s') (l ++ l')
  | .nl, _, _, _, _, h, k => by cases h; exact k
  | .cn a b, _, _, _, hl, h, k => by obtain ⟨x, xs, rfl, h1, h2⟩ := h; exact ⟨x, xs ++ _, rfl, h1, SVL.app (s := b) hl h2 k⟩
theorem SV.isL_drp : ∀ {n : Nat} {s : SV}, s.isL = true → (s.drp n).isL = true
  | 0, s, h => by simpa [SV.drp] using h
  | n + 1, .cn a b, h => SV.isL_drp (n := n) (s := b) h
  | n + 1, .nl, h => rfl
theorem SV.isL_tk : ∀ {n : Nat} {s : SV}, (s.tk n).isL = true
  | 0, s => by cases s <;> rfl
  | n + 1, .cn a b => SV.isL_tk (n := n) (s := b)
  | n + 1, .nl => rfl
  | n + 1, .dead => rfl
  | n + 1, .un => rfl
  | n + 1, .con _ => rfl
  | n + 1, .kb _ => rfl
  | n + 1, .pv _ _ => rfl
  | n + 1, .ptr _ _ => rfl
  | n + 1, .row _ => rfl
  | n + 1, .view _ _ _ => rfl
  | n + 1, .ept _ _ _ => rfl
  | n + 1, .fpt _ _ _ => rfl
  | n + 1, .gpt _ _ _ => rfl
  | n + 1, .mp _ => rfl
  | n + 1, .fn _ _ _ => rfl
  | n + 1, .ifc _ _ => rfl
  | n + 1, .tup _ => rfl
  | n + 1, .agg _ => rfl
theorem SV.isL_app : ∀ {s s' : SV}, s.isL = true → s'.isL = true → (s.app s').isL = true
  | .nl, _, _, k => k
  | .cn a b, _, h, k => SV.isL_app (s := b) h k
theorem SV.len_drp : ∀ {n : Nat} {s : SV}, s.isL = true → (s.drp n).len = s.len - n
  | 0, s, h => by simp [SV.drp]
  | n + 1, .cn a b, h => by simp [SV.drp, SV.len, SV.len_drp (n := n) (s := b) h]
  | n + 1, .nl, h => by simp [SV.drp, SV.len]
theorem SVL.ofList {α : Type} {f : α → SV} {e : α → AV} (h : ∀ a, SVR g H (f a) (e a)) : ∀ l : List α, SVL g H (SV.ofList (l.map f)) (l.map e)
  | [] => rfl
  | a :: l => ⟨e a, l.map e, rfl, h a, SVL.ofList h l⟩
theorem SV.isL_ofList : ∀ l : List SV, (SV.ofList l).isL = true
  | [] => rfl
  | a :: l => SV.isL_ofList l

/-! ### Memory -/
def FM.ok (g : FM) (h : AH) : Prop := (∀ id c, g.c id = some c → ∃ own fz ty, h.get id = some (.cells c own fz ty)) ∧ ∀ id c, g.v id = some c → h.get id = some (.gvar id c)

structure VMem (h0 : AH) (X : List Nat) (g : FM) (H : List AV) (os : List (Option SO)) (h : AH) : Prop where
  n : h0.n ≤ h.n
  old : ∀ k o, k ∉ X → h0.get k = some o → h.get k = some o
  fz : g.ok h
  hl : H.length = os.length
  so : ∀ (k : Nat) (o : SO) (x : AV), os[k]? = some (some o) → H[k]? = some x → SOR g H h o x
  own : ∀ (k : Nat) (o : SO) (x : AV) (id : Nat), os[k]? = some (some o) → H[k]? = some x → hid x = some id → (id ∈ X ∨ h0.n ≤ id) ∧ g.c id = none ∧ g.v id = none
  gx : ∀ id c, g.c id = some c → g.b id ∨ id ∈ X ∨ h0.n ≤ id
  nd : ∀ (k : Nat) (o : SO) (x : AV) (k' : Nat) (o' : SO) (x' : AV) (id : Nat), os[k]? = some (some o) → H[k]? = some x → os[k']? = some (some o') → H[k']? = some x' → hid x = some id → hid x' = some id → k = k'

structure EnvR (g : FM) (H : List AV) (ts : List SV) (env : List AV) : Prop where
  len : env.length = ts.length
  get : ∀ (d : Nat) (s : SV) (x : AV), ts[d]? = some s → env[d]? = some x → SVR g H s x

theorem EnvR.mono (hg : g.le g') (hH : Hpre H H') {ts : List SV} {env : List AV} (h : EnvR g H ts env) : EnvR g' H' ts env := ⟨h.len, fun d s x h1 h2 => (h.get d s x h1 h2).mono hg hH⟩
theorem EnvR.set {ts : List SV} {env : List AV} (h : EnvR g H ts env) (d : Nat) {s : SV} {x : AV} (hr : SVR g H s x) : EnvR g H (ts.set d s) (env.set d x) := by
  refine ⟨by simp [h.len], fun d' s' x' h1 h2 => ?_⟩
  rw [List.getElem?_set] at h1 h2
  split at h1
  · rename_i e
    rw [if_pos e] at h2
    split at h1
    · rw [if_pos (by rw [h.len]; assumption)] at h2; cases h1; cases h2; exact hr
    · cases h1
  · rename_i e
    rw [if_neg e] at h2
    exact h.get d' s' x' h1 h2

/-- Other things known of the temporaries. -/
theorem EnvR.turn {ts : List SV} {env : List AV} (h : EnvR g H ts env) (d : Nat) {s : SV} (hr : ∀ x, env[d]? = some x → SVR g H s x) : EnvR g H (ts.set d s) env := by
  refine ⟨by simp [h.len], fun d' s' x' h1 h2 => ?_⟩
  rw [List.getElem?_set] at h1
  split at h1
  · rename_i e
    subst e
    split at h1
    · cases h1; exact hr _ h2
    · cases h1
  · exact h.get d' s' x' h1 h2

theorem SOR.keep {h h' : AH} {o : SO} {x : AV} (hr : SOR g H h o x) (hk : ∀ id q, hid x = some id → h.get id = some q → h'.get id = some q) : SOR g H h' o x := by
  cases o with
  | obj t cs => obtain ⟨id, c, rfl, h1, h2⟩ := hr; exact ⟨id, c, rfl, hk _ _ rfl h1, h2⟩
  | row e t l =>
    rcases hr with h1 | ⟨id, off, c, xs, rfl, h1, h2⟩
    · exact .inl h1
    · exact .inr ⟨id, off, c, xs, rfl, hk _ _ rfl h1, h2⟩
  | map kt et m => obtain ⟨id, es, rfl, h1, h2⟩ := hr; exact ⟨id, es, rfl, hk _ _ rfl h1, h2⟩
  | sit s p => obtain ⟨id, rfl, h1, h2⟩ := hr; exact ⟨id, rfl, h1, hk _ _ rfl h2⟩
theorem SOR.mono (hg : g.le g') (hH : Hpre H H') {h : AH} {o : SO} {x : AV} (hr : SOR g H h o x) : SOR g' H' h o x := by
  cases o with
  | obj t cs => obtain ⟨id, c, h0, h1, h2, h3⟩ := hr; exact ⟨id, c, h0, h1, h2.mono hg hH, h3⟩
  | row e t l =>
    rcases hr with h1 | ⟨id, off, c, xs, h0, h1, h2, h3, h4⟩
    · exact .inl h1
    · exact .inr ⟨id, off, c, xs, h0, h1, h2, h3, h4.mono fun c v => RepC.mono hg⟩
  | map kt et m => obtain ⟨id, es, h0, h1, h2⟩ := hr; exact ⟨id, es, h0, h1, h2.mono fun a b => EntV.mono hg⟩
  | sit s p => exact hr
theorem SOR.reb {B : Nat → Prop} {h : AH} {o : SO} {x : AV} (hr : SOR g H h o x) : SOR ⟨g.c, g.v, B⟩ H h o x := by
  cases o with
  | obj t cs => obtain ⟨id, c, h0, h1, h2, h3⟩ := hr; exact ⟨id, c, h0, h1, h2.reb, h3⟩
  | row e t l =>
    rcases hr with h1 | ⟨id, off, c, xs, h0, h1, h2, h3, h4⟩
    · exact .inl h1
    · exact .inr ⟨id, off, c, xs, h0, h1, h2, h3, h4.mono fun c v => RepC.reb⟩
  | map kt et m => obtain ⟨id, es, h0, h1, h2⟩ := hr; exact ⟨id, es, h0, h1, h2.mono fun a b h => ⟨h.1.reb, h.2.1.reb, h.2.2⟩⟩
  | sit s p => exact hr
theorem SOR.lt {h : AH} {o : SO} {x : AV} {id : Nat} (hr : SOR g H h o x) (hx : hid x = some id) : id < h.n := by
  cases o with
  | obj t cs => obtain ⟨i, c, rfl, h1, h2⟩ := hr; cases hx; exact AH.get_lt h1
  | row e t l =>
    rcases hr with ⟨rfl, _⟩ | ⟨i, off, c, xs, rfl, h1, h2⟩
    · cases hx
    · cases hx; exact AH.get_lt h1
  | map kt et m => obtain ⟨i, es, rfl, h1, h2⟩ := hr; cases hx; exact AH.get_lt h1
  | sit s p => obtain ⟨i, rfl, h1, h2⟩ := hr; cases hx; exact AH.get_lt h2

section
variable {h0 h h' : AH} {X : List Nat} {os : List (Option SO)}

theorem set_at {α : Type} {l : List α} {k j : Nat} {a b : α} (h : (l.set k a)[j]? = some b) : (j = k ∧ b = a ∧ k < l.length) ∨ (j ≠ k ∧ l[j]? = some b) := by
  rw [List.getElem?_set] at h
  split at h
  · rename_i e
    split at h
    · cases h; exact .inl ⟨e.symm, rfl, by assumption⟩
    · cases h
  · rename_i e; exact .inr ⟨fun hh => e hh.symm, h⟩
theorem app_at {α : Type} {l : List α} {j : Nat} {a b : α} (h : (l ++ [a])[j]? = some b) : (j = l.length ∧ b = a) ∨ (j < l.length ∧ l[j]? = some b) := by
  rcases Nat.lt_or_ge j l.length with hj | hj
  · rw [List.getElem?_append_left hj] at h; exact .inr ⟨hj, h⟩
  · rw [List.getElem?_append_right hj] at h
    cases e : j - l.length with
    | zero => rw [e] at h; simp at h; exact .inl ⟨by omega, h.symm⟩
    | succ n => rw [e] at h; simp at h
theorem lt_at {α : Type} {l : List α} {j : Nat} {b : α} (h : l[j]? = some b) : j < l.length := by
  rcases Nat.lt_or_ge j l.length with h' | h'
  · exact h'
  · rw [List.getElem?_eq_none h'] at h; cases h

/-- A slot that is forgotten, with whatever becomes of its block. -/
theorem VMem.chg (M : VMem h0 X g H os h) {k : Nat} {o : SO} {x : AV} {id : Nat} (hk : os[k]? = some (some o)) (hx : H[k]? = some x) (hi : hid x = some id) (hn : h.n ≤ h'.n) (hf : ∀ j q, j ≠ id → h.get j = some q → h'.get j = some q) :
    VMem h0 X g H (os.set k none) h' := by
  obtain ⟨w1, w2, w3⟩ := M.own k o x id hk hx hi
  refine ⟨Nat.le_trans M.n hn, fun j q hj hq => hf j q (fun e => ?_) (M.old j q hj hq), ⟨fun j c hj => ?_, fun j c hj => ?_⟩, by simp [M.hl], fun j o' x' h1 h2 => ?_, fun j o' x' i h1 h2 h3 => ?_, M.gx, fun j o' x' j' o'' x'' i h1 h2 h3 h4 h5 h6 => ?_⟩
  · subst e
    rcases w1 with w1 | w1
    · exact hj w1
    · have := AH.get_lt hq; omega
  · obtain ⟨a, b, c', hq⟩ := M.fz.1 j c hj
    exact ⟨a, b, c', hf j _ (fun e => by subst e; rw [w2] at hj; cases hj) hq⟩
  · exact hf j _ (fun e => by subst e; rw [w3] at hj; cases hj) (M.fz.2 j c hj)
  · rcases set_at h1 with ⟨_, e, _⟩ | ⟨hne, h1⟩
    · cases e
    · exact (M.so j o' x' h1 h2).keep fun i q hi' hq => hf i q (fun e => by subst e; exact hne (M.nd j o' x' k o x _ h1 h2 hk hx hi' hi)) hq
  · rcases set_at h1 with ⟨_, e, _⟩ | ⟨hne, h1⟩
    · cases e
    · exact M.own j o' x' i h1 h2 h3
  · rcases set_at h1 with ⟨_, e, _⟩ | ⟨hne, h1⟩
    · cases e
    · rcases set_at h3 with ⟨_, e, _⟩ | ⟨hne', h3⟩
      · cases e
      · exact M.nd j o' x' j' o'' x'' i h1 h2 h3 h4 h5 h6

theorem VMem.drop (M : VMem h0 X g H os h) (k : Nat) : VMem h0 X g H (os.set k none) h := by
  refine ⟨M.n, M.old, M.fz, by simp [M.hl], fun j o' x' h1 h2 => ?_, fun j o' x' i h1 h2 h3 => ?_, M.gx, fun j o' x' j' o'' x'' i h1 h2 h3 h4 h5 h6 => ?_⟩
  · rcases set_at h1 with ⟨_, e, _⟩ | ⟨hne, h1⟩
    · cases e
    · exact M.so j o' x' h1 h2
  · rcases set_at h1 with ⟨_, e, _⟩ | ⟨hne, h1⟩
    · cases e
    · exact M.own j o' x' i h1 h2 h3
  · rcases set_at h1 with ⟨_, e, _⟩ | ⟨hne, h1⟩
    · cases e
    · rcases set_at h3 with ⟨_, e, _⟩ | ⟨hne', h3⟩
      · cases e
      · exact M.nd j o' x' j' o'' x'' i h1 h2 h3 h4 h5 h6

/-- Another content in the same place. -/
theorem VMem.upd (M : VMem h0 X g H os h) {k : Nat} {o : SO} {x : AV} {id : Nat} (hk : os[k]? = some (some o)) (hx : H[k]? = some x) (hi : hid x = some id) (hn : h.n ≤ h'.n) (hf : ∀ j q, j ≠ id → h.get j = some q → h'.get j = some q)
    {o' : SO} (ho : SOR g H h' o' x) : VMem h0 X g H (os.set k (some o')) h' := by
  have C := M.chg hk hx hi hn hf
  have hlt := lt_at hk
  have old : ∀ {j p}, (os.set k (some o'))[j]? = some (some p) → (j = k ∧ p = o') ∨ (j ≠ k ∧ (os.set k none)[j]? = some (some p) ∧ os[j]? = some (some p)) := fun {j p} hj => by
    rcases set_at hj with ⟨e, e', _⟩ | ⟨hne, hj⟩
    · cases e'; exact .inl ⟨e, rfl⟩
    · exact .inr ⟨hne, by rw [List.getElem?_set_ne (fun e => hne e.symm)]; exact hj, hj⟩
  refine ⟨C.n, C.old, C.fz, by simp [M.hl], fun j p x' h1 h2 => ?_, fun j p x' i h1 h2 h3 => ?_, M.gx, fun j p x' j' p' x'' i h1 h2 h3 h4 h5 h6 => ?_⟩
  · rcases old h1 with ⟨rfl, rfl⟩ | ⟨hne, h1, _⟩
    · rw [hx] at h2; cases h2; exact ho
    · exact C.so j p x' h1 h2
  · rcases old h1 with ⟨rfl, rfl⟩ | ⟨hne, _, h1⟩
    · exact M.own j o x' i hk h2 h3
    · exact M.own j p x' i h1 h2 h3
  · rcases old h1 with ⟨rfl, rfl⟩ | ⟨hne, _, h1'⟩
    · rcases old h3 with ⟨rfl, rfl⟩ | ⟨hne', _, h3⟩
      · rfl
      · exact M.nd j o x' j' p' x'' i hk h2 h3 h4 h5 h6
    · rcases old h3 with ⟨rfl, rfl⟩ | ⟨hne', _, h3⟩
      · exact M.nd j p x' j' o x'' i h1' h2 hk h4 h5 h6
      · exact M.nd j p x' j' p' x'' i h1' h2 h3 h4 h5 h6

/-- Another content, without a change of memory. -/
theorem VMem.say (M : VMem h0 X g H os h) {k : Nat} {o : SO} {x : AV} (hk : os[k]? = some (some o)) (hx : H[k]? = some x) {o' : SO} (ho : SOR g H h o' x) : VMem h0 X g H (os.set k (some o')) h := by
  have old : ∀ {j p}, (os.set k (some o'))[j]? = some (some p) → (j = k ∧ p = o') ∨ (j ≠ k ∧ os[j]? = some (some p)) := fun {j p} hj => by
    rcases set_at hj with ⟨e, e', _⟩ | ⟨hne, hj⟩
    · cases e'; exact .inl ⟨e, rfl⟩
    · exact .inr ⟨hne, hj⟩
  refine ⟨M.n, M.old, M.fz, by simp [M.hl], fun j p x' h1 h2 => ?_, fun j p x' i h1 h2 h3 => ?_, M.gx, fun j p x' j' p' x'' i h1 h2 h3 h4 h5 h6 => ?_⟩
  · rcases old h1 with ⟨rfl, rfl⟩ | ⟨hne, h1⟩
    · rw [hx] at h2; cases h2; exact ho
    · exact M.so j p x' h1 h2
  · rcases old h1 with ⟨rfl, rfl⟩ | ⟨hne, h1⟩
    · exact M.own j o x' i hk h2 h3
    · exact M.own j p x' i h1 h2 h3
  · rcases old h1 with ⟨rfl, rfl⟩ | ⟨hne, h1'⟩
    · rcases old h3 with ⟨rfl, rfl⟩ | ⟨hne', h3⟩
      · rfl
      · exact M.nd j o x' j' p' x'' i hk h2 h3 h4 h5 h6
    · rcases old h3 with ⟨rfl, rfl⟩ | ⟨hne', h3⟩
      · exact M.nd j p x' j' o x'' i h1' h2 hk h4 h5 h6
      · exact M.nd j p x' j' p' x'' i h1' h2 h3 h4 h5 h6

/-- One more slot. -/
theorem VMem.add (M : VMem h0 X g H os h) (hn : h.n ≤ h'.n) (hf : ∀ j q, h.get j = some q → h'.get j = some q) {o : SO} {x : AV} (hx : ∀ id, hid x = some id → h.n ≤ id) (ho : SOR g (H ++ [x]) h' o x) :
    VMem h0 X g (H ++ [x]) (os ++ [some o]) h' := by
  have hp := Hpre.add H x
  have hle := FM.le.refl g
  have old : ∀ {j p y}, (os ++ [some o])[j]? = some (some p) → (H ++ [x])[j]? = some y → (j = os.length ∧ p = o ∧ y = x) ∨ (os[j]? = some (some p) ∧ H[j]? = some y) := fun {j p y} hj hy => by
    rcases app_at hj with ⟨e, e'⟩ | ⟨hlt, hj⟩
    · cases e'
      rcases app_at hy with ⟨_, e''⟩ | ⟨hlt, _⟩
      · exact .inl ⟨e, rfl, e''⟩
      · rw [M.hl] at hlt; omega
    · rcases app_at hy with ⟨e, _⟩ | ⟨_, hy⟩
      · rw [M.hl] at e; omega
      · exact .inr ⟨hj, hy⟩
  have gn : ∀ id, h.n ≤ id → g.c id = none ∧ g.v id = none := fun id hid => by
    refine ⟨?_, ?_⟩
    · cases e : g.c id with
      | none => rfl
      | some c => obtain ⟨_, _, _, hq⟩ := M.fz.1 id c e; have := AH.get_lt hq; omega
    · cases e : g.v id with
      | none => rfl
      | some c => have := AH.get_lt (M.fz.2 id c e); omega
  refine ⟨Nat.le_trans M.n hn, fun j q hj hq => hf j q (M.old j q hj hq), ⟨fun j c hj => let ⟨a, b, d, hq⟩ := M.fz.1 j c hj; ⟨a, b, d, hf _ _ hq⟩, fun j c hj => hf _ _ (M.fz.2 j c hj)⟩, by simp [M.hl], fun j p y h1 h2 => ?_, fun j p y i h1 h2 h3 => ?_, M.gx, fun j p y j' p' y' i h1 h2 h3 h4 h5 h6 => ?_⟩
  · rcases old h1 h2 with ⟨rfl, rfl, rfl⟩ | ⟨h1, h2⟩
    · exact ho
    · exact ((M.so j p y h1 h2).mono hle hp).keep fun i q _ hq => hf i q hq
  · rcases old h1 h2 with ⟨rfl, rfl, rfl⟩ | ⟨h1, h2⟩
    · have := hx i h3; exact ⟨.inr (Nat.le_trans M.n this), gn i this⟩
    · exact M.own j p y i h1 h2 h3
  · rcases old h1 h2 with ⟨rfl, rfl, rfl⟩ | ⟨h1', h2'⟩
    · rcases old h3 h4 with ⟨rfl, rfl, rfl⟩ | ⟨h3, h4⟩
      · rfl
      · have := hx i h5; have := (M.so j' p' y' h3 h4).lt h6; omega
    · rcases old h3 h4 with ⟨rfl, rfl, rfl⟩ | ⟨h3, h4⟩
      · have := hx i h6; have := (M.so j p y h1' h2').lt h5; omega
      · exact M.nd j p y j' p' y' i h1' h2' h3 h4 h5 h6
end
end Go.Proofs.YtlpiiifmidehjaaDoorM
