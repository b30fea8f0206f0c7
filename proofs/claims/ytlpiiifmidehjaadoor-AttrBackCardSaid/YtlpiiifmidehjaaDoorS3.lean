/- A drawn region that is in order with some functions known to look at no memory is so with more of them. -/
import Derived.Test.YtlpiiifmidehjaaDoorS2
set_option linter.unusedSimpArgs false
set_option linter.unusedVariables false
namespace Go.Proofs.YtlpiiifmidehjaaDoorM
open Go Go.RowKit

variable {P : Program}

def Ksub (K0 K : PureK) : Prop := ∀ f, (K0 f).isSome = true → (K f).isSome = true

theorem kindCall_sub {K0 K : PureK} (hs : Ksub K0 K) (c : Call) : kindCall P (tabOf K) c = kindCall P (tabOf K0) c ∨ kindCall P (tabOf K) c = .free ∧ kindCall P (tabOf K0) c = .write := by
  unfold kindCall
  cases hc : c.callee with
  | builtin b => left; cases b <;> rfl
  | invoke a b => left; rfl
  | value v =>
    cases v with
    | func f =>
      simp only [tabOf]
      cases h0 : K0 f with
      | none =>
        cases h1 : K f with
        | none => left; rfl
        | some k => right; exact ⟨rfl, rfl⟩
      | some k =>
        have := hs f (by rw [h0]; rfl)
        cases h1 : K f with
        | none => rw [h1] at this; cases this
        | some k' => left; rfl
    | _ => left; rfl

theorem kindOf_sub {K0 K : PureK} (hs : Ksub K0 K) (o : Op) : kindOf P (tabOf K) o = kindOf P (tabOf K0) o ∨ kindOf P (tabOf K) o = .free ∧ kindOf P (tabOf K0) o = .write := by
  cases o with
  | call c => exact kindCall_sub hs c
  | _ => left; rfl

theorem apart_sub {K0 K : PureK} (hs : Ksub K0 K) {x y : Oper} (h : kindsApart P (tabOf K0) x y = true) : kindsApart P (tabOf K) x y = true := by
  unfold kindsApart at *
  rcases kindOf_sub (P := P) hs x.op with h1 | ⟨h1, h2⟩
  · rw [h1]
    rcases kindOf_sub (P := P) hs y.op with h3 | ⟨h3, h4⟩
    · rw [h3]; exact h
    · rw [h3]
      cases kindOf P (tabOf K0) x.op <;> rfl
  · rw [h1]

theorem allNew_sub {K0 K : PureK} (hs : Ksub K0 K) {ops : Array Oper} (h : allNew P (tabOf K0) ops = true) : allNew P (tabOf K) ops = true := by
  unfold allNew at *
  rw [List.all_eq_true] at *
  intro j hj
  have h1 := h j hj
  split at h1
  · rename_i o ho
    simp only [Bool.or_eq_true, Bool.not_eq_true', beq_eq_false_iff_ne] at h1 ⊢
    rcases kindOf_sub (P := P) hs o.op with h2 | ⟨h2, h3⟩
    · rw [h2]; exact h1
    · left; rw [h2]; intro e; cases e
  · rfl

theorem allKeep_sub {K0 K : PureK} (hs : Ksub K0 K) {ops : Array Oper} (h : allKeep P (tabOf K0) ops = true) : allKeep P (tabOf K) ops = true := by
  unfold allKeep at *
  rw [List.all_eq_true] at *
  intro j hj
  have h1 := h j hj
  split at h1
  · rename_i o ho
    simp only [Bool.or_eq_true, Bool.not_eq_true', beq_eq_false_iff_ne] at h1 ⊢
    rcases kindOf_sub (P := P) hs o.op with h2 | ⟨h2, h3⟩
    · rw [h2]; exact h1
    · left; rw [h2]; intro e; cases e
  · rfl
theorem side_sub {K0 K : PureK} (hs : Ksub K0 K) {s : Option Nat} {ops : Array Oper} {i j : Nat} {x y : Op} (h : sideOK P (tabOf K0) s ops i x j y = true) : sideOK P (tabOf K) s ops i x j y = true := by
  cases s <;> simp only [sideOK, Bool.and_eq_true] at h ⊢
  · exact ⟨allNew_sub hs h.1, h.2⟩
  · exact ⟨allKeep_sub hs h.1, h.2⟩

theorem dOKx_sub {K0 K : PureK} (hs : Ksub K0 K) {s : Option Nat} {ops : Array Oper} (h : dOKx P (tabOf K0) s ops = true) : dOKx P (tabOf K) s ops = true := by
  unfold dOKx at *
  simp only [List.all_eq_true, List.mem_range, Bool.and_eq_true] at *
  intro j hj
  refine ⟨(h j hj).1, fun i hi => ?_⟩
  have := (h j hj).2 i hi
  unfold pairOK at *
  split
  · rename_i x y hx hy
    rw [hx, hy] at this
    simp only [Bool.and_eq_true, Bool.or_eq_true] at this ⊢
    refine ⟨this.1, this.2.imp id fun h2 => ⟨h2.1, h2.2.imp (fun h4 => h4.imp id fun h3 => ⟨apart_sub hs h3.1, apart_sub hs h3.2⟩) fun h3 => side_sub hs h3⟩⟩
  · rename_i hx
    split at this
    · rename_i x y hx' hy'; exact absurd hy' (hx x y hx')
    · cases this
theorem dOK_sub {K0 K : PureK} (hs : Ksub K0 K) {ops : Array Oper} (h : dOK P (tabOf K0) ops = true) : dOK P (tabOf K) ops = true := dOKx_sub hs h

theorem aop_keep {T : PTab} {cf : CallF} {env : List AV} {o : Op} {h : AH} {r : AV × AH} (e : aop P (withTab T (keepF cf)) env o h = some r) : aop P (withTab T cf) env o h = some r := by
  cases o with
  | call c =>
    simp only [aop, acall1] at e ⊢
    split at e
    · exact e
    · split at e
      · unfold withTab at e ⊢
        split at e
        · exact e
        · exact (keepF_some e).1
      · cases e
    · cases e
  | makeMap t r0 => cases r0 <;> exact e
  | _ => exact e
theorem aops_keep {T : PTab} {cf : CallF} {ops : Array Oper} : ∀ {l : List Oper} {env : List AV} {h : AH} {r : List AV × AH}, aops P (withTab T (keepF cf)) ops l env h = some r → aops P (withTab T cf) ops l env h = some r
  | [], _, _, _, e => e
  | o :: l, env, h, r, e => by
    simp only [aops] at e ⊢
    have st : ∀ q, astep P (withTab T (keepF cf)) ops o env h = some q → astep P (withTab T cf) ops o env h = some q := fun q hq => by
      unfold astep at hq ⊢
      split at hq
      · cases ho : aop P (withTab T (keepF cf)) env o.op h with
        | none => rw [ho] at hq; cases hq
        | some v => rw [ho] at hq; rw [aop_keep ho]; exact hq
      · exact hq
      · cases hq
    cases hq : astep P (withTab T (keepF cf)) ops o env h with
    | none => rw [hq] at e; cases e
    | some q =>
      rw [hq] at e
      rw [st q hq]
      exact aops_keep e

/-- A drawn region whose loads stand beside calls. -/
theorem AE_drawnS {K0 K : PureK} (hs : Ksub K0 K) {cf : CallF} {env : List AV} {h : AH} {KE : List AV → AH → Prop} {l : List Oper} {a0 : Nat} (hd : dOKx P (tabOf K0) (some a0) l.toArray = true) (hp : ∃ id off, env.getD a0 .undef = .ptr id off)
    (h1 : AE (aops P (withTab (tabOf K) (keepF cf)) l.toArray l env h) KE) : AE (drawnOf P (tabOf K) cf l.toArray env h) KE := by
  unfold drawnOf
  split
  · cases e : aops P (withTab (tabOf K) (keepF cf)) l.toArray l env h with
    | none => rw [e] at h1; exact h1.elim
    | some r => rw [e] at h1; simp only [aops_keep e]; exact h1
  · rw [if_pos (let ⟨id, off, e⟩ := hp; ⟨a0, id, off, dOKx_sub hs hd, e⟩)]
    exact h1

theorem AE_drawnK {K0 K : PureK} (hs : Ksub K0 K) {cf : CallF} {env : List AV} {h : AH} {KE : List AV → AH → Prop} {l : List Oper} (hd : dOK P (tabOf K0) l.toArray = true) :
    AE (drawnOf P (tabOf K) cf l.toArray env h) KE = AE (aops P (withTab (tabOf K) cf) l.toArray l env h) KE := AE_drawn (dOK_sub hs hd)

/-- Some of them, by number. -/
def Kof : List FuncId → PureK
  | [] => fun _ => none
  | f :: l => fun g => if g = f then some (fun _ => none) else Kof l g
theorem Ksub.nil {K : PureK} : Ksub (Kof []) K := fun f h => (by cases h)
theorem Ksub.cons {K : PureK} {f : FuncId} {l : List FuncId} {k : List AV → Option AV} (hk : K f = some k) (h : Ksub (Kof l) K) : Ksub (Kof (f :: l)) K := fun g hg => by
  simp only [Kof] at hg
  split at hg
  · rename_i e; subst e; rw [hk]; rfl
  · exact h g hg
def addK (K : PureK) (f : FuncId) (k : List AV → Option AV) : PureK := fun g => if g = f then some k else K g
theorem KOK.none {B : Nat} : KOK P B (fun _ => none) := fun f k h => (by cases h)
theorem KOK.add {B : Nat} {K : PureK} (hK : KOK P B K) {f : FuncId} {k : List AV → Option AV} (hk : HookOK P B f (fun args h => (k args).map fun v => (v, h))) : KOK P B (addK K f k) := by
  intro g k' hg
  simp only [addK] at hg
  split at hg
  · rename_i e; subst e; cases hg; exact hk
  · exact hK g k' hg
end Go.Proofs.YtlpiiifmidehjaaDoorM
