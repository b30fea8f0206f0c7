/- States fitted to a shape. -/
import Derived.Test.YtlpiiifmidehjaaDoorV11
set_option linter.unusedSimpArgs false
set_option linter.unusedVariables false
namespace Go.Proofs.YtlpiiifmidehjaaDoorM
open Go Go.RowKit

/-! ### Which slot stands for which -/
def walkM : SH → SV → List (Nat × Nat)
  | .ptr k _, .ptr j _ => [(k, j)]
  | .row k, .row j => [(k, j)]
  | .view k, .view j _ _ => [(k, j)]
  | .ept k _, .ept j _ _ => [(k, j)]
  | .mp k, .mp j => [(k, j)]
  | .fn _ a b, .fn _ a' b' => walkM a a' ++ walkM b b'
  | .ifc _ a, .ifc _ b => walkM a b
  | .tup a, .tup b => walkM a b
  | .agg a, .agg b => walkM a b
  | .cn a b, .cn a' b' => walkM a a' ++ walkM b b'
  | _, _ => []
def walkF : SH → SV → List Nat
  | .pv _, s => s.rows
  | .fn _ a b, .fn _ a' b' => walkF a a' ++ walkF b b'
  | .ifc _ a, .ifc _ b => walkF a b
  | .tup a, .tup b => walkF a b
  | .agg a, .agg b => walkF a b
  | .cn a b, .cn a' b' => walkF a a' ++ walkF b b'
  | _, _ => []
def walkL {α : Type} (f : SH → SV → List α) : List SH → List SV → List α
  | a :: l, s :: xs => f a s ++ walkL f l xs
  | _, _ => []
def slotW {α : Type} (f : SH → SV → List α) (T : List SOH) (os : List (Option SO)) : List (Nat × Nat) → List α
  | [] => []
  | (k, j) :: ps => match T[k]?, osAt os j with
    | some (.obj _ a), some (.obj _ cs) => f a cs ++ slotW f T os ps
    | _, _ => slotW f T os ps
def inPs (p : Nat × Nat) : List (Nat × Nat) → Bool
  | [] => false
  | q :: l => (q.1 == p.1 && q.2 == p.2) || inPs p l
def addPs : List (Nat × Nat) → List (Nat × Nat) → List (Nat × Nat)
  | [], acc => acc
  | p :: l, acc => if inPs p acc then addPs l acc else addPs l (acc ++ [p])
def cloP (T : List SOH) (os : List (Option SO)) : Nat → List (Nat × Nat) → List (Nat × Nat)
  | 0, ps => ps
  | n + 1, ps => cloP T os n (addPs (slotW walkM T os ps) ps)
def idPs : Nat → List (Nat × Nat)
  | 0 => []
  | n + 1 => idPs n ++ [(n, n)]
def lookP (k : Nat) : List (Nat × Nat) → Option Nat
  | [] => none
  | (a, j) :: l => if a = k then some j else lookP k l
def ordP (p : Nat) (ps : List (Nat × Nat)) (N : Nat) : Nat → List Nat
  | 0 => []
  | k + 1 => ordP p ps N k ++ [if k < p then k else (lookP k ps).getD (N + k)]
def frzAll (S : VS) : List Nat → VS
  | [] => S
  | k :: ks => match S.os[k]? with
    | some (some (.row _ _ _)) => frzAll (frz S k) ks
    | _ => frzAll S ks
def pairsOf (p : Nat) (T : Sh) (ts : List SV) (os : List (Option SO)) : List (Nat × Nat) := cloP T.os os (T.os.length + 1) (addPs (walkL walkM T.ts ts) (idPs p))
def prep1 (p : Nat) (T : Sh) (S : VS) : VS := frzAll S (walkL walkF T.ts S.ts ++ slotW walkF T.os S.os (pairsOf p T S.ts S.os))
def prep2 (T : Sh) (S1 : VS) : VS := ⟨(coerL T.os T.ts S1.ts S1.os).1, (coerL T.os T.ts S1.ts S1.os).2⟩
def prep3 (p : Nat) (T : Sh) (S2 : VS) : VS := ⟨S2.ts, coerO T.os (pairsOf p T S2.ts S2.os) S2.os⟩
def prep (p : Nat) (T : Sh) (S : VS) : VS := prep3 p T (prep2 T (prep1 p T S))
def ordOf (p : Nat) (T : Sh) (S3 : VS) : List Nat := ordP p (pairsOf p T S3.ts S3.os) S3.os.length T.os.length
def VS.ren (S : VS) (l : List Nat) : VS := ⟨S.ts.map (SV.ren (posIn l)), renOs l (posIn l) S.os⟩
def nodupB : List Nat → Bool
  | [] => true
  | x :: l => !(l.contains x) && nodupB l
def fit (p : Nat) (T : Sh) (S : VS) : Option T.D :=
  (fun S3 => (fun l => if nodupB l = true ∧ l.take p = List.range p then T.pack (S3.ren l) else none) (ordOf p T S3)) (prep p T S)

section
variable {g g' : FM} {H H' : List AV} {env : List AV} {h h0 h' : AH} {X : List Nat} {S : VS}

theorem nodupB_ok : ∀ {l : List Nat}, nodupB l = true → l.Nodup
  | [], _ => .nil
  | x :: l, h => by
    simp only [nodupB, Bool.and_eq_true, Bool.not_eq_true', List.contains_eq_mem, decide_eq_false_iff_not] at h
    exact List.nodup_cons.2 ⟨h.1, nodupB_ok h.2⟩

theorem frzAll_ok : ∀ {ks : List Nat} {g : FM} {S : VS}, VMem h0 X g H S.os h → EnvR g H S.ts env → ∃ g', g.le g' ∧ VMem h0 X g' H (frzAll S ks).os h ∧ EnvR g' H (frzAll S ks).ts env
  | [], g, S, M, E => ⟨g, FM.le.refl g, M, E⟩
  | k :: ks, g, S, M, E => by
    unfold frzAll
    split
    · rename_i e T l hk
      obtain ⟨g1, hg, hR, M1⟩ := frz_ok M hk
      have E1 := frz_env hg hR E
      rw [← frz_ts hk] at E1
      obtain ⟨g2, hg2, q⟩ := frzAll_ok (ks := ks) M1 E1
      exact ⟨g2, hg.trans hg2, q⟩
    · exact frzAll_ok M E

theorem prep_ok {p : Nat} {T : Sh} (M : VMem h0 X g H S.os h) (E : EnvR g H S.ts env) : ∃ g' H', g.le g' ∧ Hpre H H' ∧ VMem h0 X g' H' (prep p T S).os h ∧ EnvR g' H' (prep p T S).ts env := by
  obtain ⟨g1, a1, a2, a3⟩ := frzAll_ok (ks := walkL walkF T.ts S.ts ++ slotW walkF T.os S.os (pairsOf p T S.ts S.os)) M E
  obtain ⟨H2, b1, b2, b3⟩ := coerL_ok (T := T.os) (as := T.ts) a2 a3
  obtain ⟨H3, c1, c2, _⟩ := coerO_ok (T := T.os) (ps := pairsOf p T (prep2 T (prep1 p T S)).ts (prep2 T (prep1 p T S)).os) b2
  exact ⟨g1, H3, a1, b1.trans c1, c2, b3.mono (FM.le.refl g1) c1⟩

theorem EnvR.ren {ts : List SV} {ρ : Nat → Option Nat} (hm : Moved H H' ρ) (E : EnvR g H ts env) : EnvR g H' (ts.map (SV.ren ρ)) env := by
  refine ⟨by simp [E.len], fun d s x h1 h2 => ?_⟩
  rw [List.getElem?_map] at h1
  obtain ⟨s', k1, rfl⟩ := Option.map_eq_some_iff.1 h1
  exact SVL.ren hm (E.get d s' x k1 h2)

theorem fit_ok {p : Nat} {T : Sh} {q : T.D} (hq : fit p T S = some q) (M : VMem h0 X g H S.os h) (E : EnvR g H S.ts env) :
    ∃ g' H', g.le g' ∧ (∀ (k : Nat) (x : AV), k < p → H[k]? = some x → H'[k]? = some x) ∧ VMem h0 X g' H' (T.unp q).os h ∧ EnvR g' H' (T.unp q).ts env := by
  unfold fit at hq
  obtain ⟨g1, H1, a1, a2, a3, a4⟩ := prep_ok (p := p) (T := T) M E
  simp only at hq
  split at hq
  · rename_i hc
    obtain ⟨c1, c2⟩ := hc
    have M2 := a3.ren (nodupB_ok c1) moved_pos
    have E2 := a4.ren (moved_pos (l := ordOf p T (prep p T S)))
    obtain ⟨M3, E3⟩ := Sh.pack_ok hq M2 E2
    refine ⟨g1, _, a1, fun k x hk hx => ?_, M3, E3⟩
    have : ((ordOf p T (prep p T S)).take p)[k]? = some k := by rw [c2, List.getElem?_range hk]
    rw [List.getElem?_take, if_pos hk] at this
    rw [List.getElem?_map, this, Option.map_some, List.getD_eq_getElem?_getD, a2 k x hx]
    rfl
  · cases hq

end

/-! ### Entries: functions whose plain twin is known -/
abbrev AltD : List Sh → Type
  | [] => Unit
  | [a] => a.D
  | a :: b :: l => a.D ⊕ AltD (b :: l)
def altDflt : (l : List Sh) → AltD l
  | [] => ()
  | [a] => Ty.dflt a.ty
  | a :: _ :: _ => Sum.inl (Ty.dflt a.ty)
def packAlt (p : Nat) : (l : List Sh) → VS → Option (AltD l)
  | [], _ => none
  | [a], S => fit p a S
  | a :: b :: l, S => match fit p a S with
    | some q => some (Sum.inl q)
    | none => (packAlt p (b :: l) S).map Sum.inr
def unpAlt {R : Type} : (l : List Sh) → AltD l → (VS → Option R) → Option R
  | [], _, _ => none
  | [a], q, K => K (a.unp q)
  | a :: b :: l, q, K => sumK q (fun q => K (a.unp q)) (fun q => unpAlt (b :: l) q K)
def anyAlt {R : Type} (m : Md R) : List Sh → (VS → Option R) → Option R
  | [], _ => none
  | a :: l, K => match K (a.unp (Ty.dflt a.ty)), anyAlt m l K with
    | some x, some y => some (m.mrg x y)
    | some x, none => some x
    | none, y => y
def vAlt {R : Type} (m : Md R) (l : List Sh) (q : AltD l) (K : VS → Option R) : Option R := bif m.real then unpAlt l q K else anyAlt m l K
structure VEnt where
  f : FuncId
  ps : Sh
  rs : List Sh
  F : ps.D → Option (AltD rs)
/-- Such an answer is such a state. -/
def IsAlt (l : List Sh) (q : AltD l) (S : VS) : Prop := ∀ {R : Type} (K : VS → Option R), unpAlt l q K = K S

def SoundE (gl : List GVar) (cf : CallF) (e : VEnt) : Prop :=
  ∀ (X : List Nat) (g : FM) (H : List AV) (args : List AV) (h : AH) (p : e.ps.D) (q : AltD e.rs), GOK g gl → e.F p = some q → VMem h X g H (e.ps.unp p).os h → EnvR g H (e.ps.unp p).ts args →
    ∃ v h' g' H' S', cf e.f args h = some (v, h') ∧ g.le g' ∧ (∀ (k : Nat) (x : AV), k < e.ps.os.length → H[k]? = some x → H'[k]? = some x) ∧ VMem h X g' H' S'.os h' ∧ EnvR g' H' S'.ts [v] ∧ IsAlt e.rs q S'

section
variable {g g' : FM} {H H' : List AV} {env : List AV} {h h0 h' : AH} {X : List Nat} {S : VS}
theorem packAlt_ok {p : Nat} : ∀ {l : List Sh} {q : AltD l}, packAlt p l S = some q → VMem h0 X g H S.os h → EnvR g H S.ts env →
    ∃ g' H' S', g.le g' ∧ (∀ (k : Nat) (x : AV), k < p → H[k]? = some x → H'[k]? = some x) ∧ VMem h0 X g' H' S'.os h ∧ EnvR g' H' S'.ts env ∧ IsAlt l q S'
  | [], _, hp, _, _ => by cases hp
  | [a], q, hp, M, E => by
    obtain ⟨g', H', h1, h2, h3, h4⟩ := fit_ok hp M E
    exact ⟨g', H', a.unp q, h1, h2, h3, h4, fun K => rfl⟩
  | a :: b :: l, q, hp, M, E => by
    unfold packAlt at hp
    split at hp
    · rename_i w hw
      cases hp
      obtain ⟨g', H', h1, h2, h3, h4⟩ := fit_ok hw M E
      exact ⟨g', H', a.unp w, h1, h2, h3, h4, fun K => rfl⟩
    · obtain ⟨w, hw, rfl⟩ := Option.map_eq_some_iff.1 hp
      obtain ⟨g', H', S', h1, h2, h3, h4, h5⟩ := packAlt_ok hw M E
      exact ⟨g', H', S', h1, h2, h3, h4, fun K => h5 K⟩
theorem vAlt_ok {R : Type} {m : Md R} (hm : m.real = true) {l : List Sh} {q : AltD l} {K : VS → Option R} {r : R} (hk : vAlt m l q K = some r) (hq : IsAlt l q S) : K S = some r := by
  unfold vAlt at hk
  rw [hm] at hk
  rw [← hq K]; exact hk
end

/-! ### What names no frozen memory -/
def SV.flat : SV → Bool
  | .pv t _ => t.flat
  | .fpt _ _ _ => false
  | .gpt _ _ _ => false
  | .fn _ a b => a.flat && b.flat
  | .ifc _ s => s.flat
  | .tup s => s.flat
  | .agg s => s.flat
  | .cn a b => a.flat && b.flat
  | _ => true
def SO.flat : Option SO → Bool
  | some (.obj _ cs) => cs.flat
  | some (.row _ t _) => t.flat
  | some (.map k e _) => k.flat && e.flat
  | _ => true
def VS.flat (S : VS) : Bool := S.ts.all SV.flat && S.os.all SO.flat

section
variable {g g' : FM} {H H' : List AV} {env : List AV} {h h0 h' : AH} {X : List Nat} {S : VS}
theorem RepV.free {t : Ty} {x : AV} {v : t.D} (hf : t.flat = true) (h : RepV g t x v) : RepV g' t x v := by
  unfold RepV at *
  split
  · rename_i ht; rw [if_pos ht] at h; obtain ⟨cs, rfl, h⟩ := h; exact ⟨cs, rfl, h.free hf⟩
  · rename_i ht; rw [if_neg ht] at h; exact h.free hf
theorem SVL.free : ∀ {s : SV} {l : List AV}, s.flat = true → SVL g H s l → SVL g' H s l
  | .pv t v, _, hf, h => by obtain ⟨x, rfl, h⟩ := h; exact ⟨x, rfl, h.free hf⟩
  | .fn f a b, _, hf, h => by
    simp only [SV.flat, Bool.and_eq_true] at hf
    obtain ⟨xs, ys, h1, h2, h3⟩ := h; exact ⟨xs, ys, h1, SVL.free hf.1 h2, SVL.free hf.2 h3⟩
  | .ifc t s, _, hf, h => by obtain ⟨x, h1, h2⟩ := h; exact ⟨x, h1, SVL.free (s := s) hf h2⟩
  | .tup s, _, hf, h => by obtain ⟨x, h1, h2⟩ := h; exact ⟨x, h1, SVL.free (s := s) hf h2⟩
  | .agg s, _, hf, h => by obtain ⟨x, h1, h2⟩ := h; exact ⟨x, h1, SVL.free (s := s) hf h2⟩
  | .cn a b, _, hf, h => by
    simp only [SV.flat, Bool.and_eq_true] at hf
    obtain ⟨x, xs, h1, h2, h3⟩ := h; exact ⟨x, xs, h1, SVL.free hf.1 h2, SVL.free hf.2 h3⟩
  | .dead, _, _, h => h
  | .un, _, _, h => h
  | .con _, _, _, h => h
  | .kb _, _, _, h => h
  | .ptr k off, _, _, h => h
  | .row k, _, _, h => h
  | .view k a b, _, _, h => h
  | .ept k i o, _, _, h => h
  | .mp k, _, _, h => h
  | .nl, _, _, h => h
  | .fpt _ _ _, _, hf, _ => by cases hf
  | .gpt _ _ _, _, hf, _ => by cases hf
theorem SOR.free {o : SO} {x : AV} (hf : SO.flat (some o) = true) (hr : SOR g H h o x) : SOR g' H h o x := by
  cases o with
  | obj t cs => obtain ⟨id, c, h0, h1, h2, h3⟩ := hr; exact ⟨id, c, h0, h1, h2.free hf, h3⟩
  | row e t l =>
    rcases hr with h1 | ⟨id, off, c, xs, h0, h1, h2, h3, h4⟩
    · exact .inl h1
    · exact .inr ⟨id, off, c, xs, h0, h1, h2, h3, h4.mono fun c v => RepC.free (t := t) hf⟩
  | map kt et m =>
    simp only [SO.flat, Bool.and_eq_true] at hf
    obtain ⟨id, es, h0, h1, h2⟩ := hr; exact ⟨id, es, h0, h1, h2.mono fun a b h => ⟨h.1.free hf.1, h.2.1.free hf.2, h.2.2⟩⟩
  | sit s p => exact hr
end
end Go.Proofs.YtlpiiifmidehjaaDoorM
