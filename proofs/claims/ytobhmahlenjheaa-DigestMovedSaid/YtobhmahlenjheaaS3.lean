/- A drawn region that is in order with some functions known to look at no memory is so with more of them. -/
import Derived.Test.YtobhmahlenjheaaS2
set_option linter.unusedSimpArgs false
set_option linter.unusedVariables false
namespace Go.Proofs.YtobhmahlenjheaaM
open Go Go.RowKit

variable {P : Program}

def Ksub (K0 K : PureK) : Prop := ∀ f, (K0 f).isSome = true → (K f).isSome = true

theorem kindCall_sub {K0 K : PureK} (hs : Ksub K0 K) (c : Call) : kindCall P (tabOf K) c = kindCall P (tabOf K0) c ∨ kindCall P (tabOf K) c = .free ∧ kindCall P (tabOf K0) c = .write := by
  unfold kindCall
  cases hc : c.callee with
  | builtin b => left; cases b <;> rfl
  | invoke a b => left; rfl
  | value v =>
    cases v with
    | func f =>
      simp only [tabOf]
      cases h0 : K0 f with
      | none =>
        cases h1 : K f with
        | none => left; rfl
        | some k => right; exact ⟨rfl, rfl⟩
      | some k =>
        have := hs f (by rw [h0]; rfl)
        cases h1 : K f with
        | none => rw [h1] at this; cases this
        | some k' => left; rfl
    | _ => left; rfl

theorem kindOf_sub {K0 K : PureK} (hs : Ksub K0 K) (o : Op) : kindOf P (tabOf K) o = kindOf P (tabOf K0) o ∨ kindOf P (tabOf K) o = .free ∧ kindOf P (tabOf K0) o = .write := by
  cases o with
  | call c => exact kindCall_sub hs c
  | _ => left; rfl

theorem apart_sub {K0 K : PureK} (hs : Ksub K0 K) {x y : Oper} (h : kindsApart P (tabOf K0) x y = true) : kindsApart P (tabOf K) x y = true := by
  unfold kindsApart at *
  rcases kindOf_sub (P := P) hs x.op with h1 | ⟨h1, h2⟩
  · rw [h1]
    rcases kindOf_sub (P := P) hs y.op with h3 | ⟨h3, h4⟩
    · rw [h3]; exact h
    · rw [h3]
      cases kindOf P (tabOf K0) x.op <;> rfl
  · rw [h1]

theorem dOK_sub {K0 K : PureK} (hs : Ksub K0 K) {ops : Array Oper} (h : dOK P (tabOf K0) ops = true) : dOK P (tabOf K) ops = true := by
  unfold dOK at *
  simp only [List.all_eq_true, List.mem_range, Bool.and_eq_true] at *
  intro j hj
  refine ⟨(h j hj).1, fun i hi => ?_⟩
  have := (h j hj).2 i hi
  unfold pairOK at *
  split
  · rename_i x y hx hy
    rw [hx, hy] at this
    simp only [Bool.and_eq_true, Bool.or_eq_true] at this ⊢
    refine ⟨this.1, this.2.imp id fun h2 => ⟨h2.1, h2.2.imp id fun h3 => ⟨apart_sub hs h3.1, apart_sub hs h3.2⟩⟩⟩
  · rename_i hx
    split at this
    · rename_i x y hx' hy'; exact absurd hy' (hx x y hx')
    · cases this

theorem AE_drawnK {K0 K : PureK} (hs : Ksub K0 K) {cf : CallF} {env : List AV} {h : AH} {KE : List AV → AH → Prop} {l : List Oper} (hd : dOK P (tabOf K0) l.toArray = true) :
    AE (drawnOf P (tabOf K) cf l.toArray env h) KE = AE (aops P (withTab (tabOf K) cf) l.toArray l env h) KE := AE_drawn (dOK_sub hs hd)

/-- Some of them, by number. -/
def Kof : List FuncId → PureK
  | [] => fun _ => none
  | f :: l => fun g => if g = f then some (fun _ => none) else Kof l g
theorem Ksub.nil {K : PureK} : Ksub (Kof []) K := fun f h => (by cases h)
theorem Ksub.cons {K : PureK} {f : FuncId} {l : List FuncId} {k : List AV → Option AV} (hk : K f = some k) (h : Ksub (Kof l) K) : Ksub (Kof (f :: l)) K := fun g hg => by
  simp only [Kof] at hg
  split at hg
  · rename_i e; subst e; rw [hk]; rfl
  · exact h g hg
def addK (K : PureK) (f : FuncId) (k : List AV → Option AV) : PureK := fun g => if g = f then some k else K g
theorem KOK.none {B : Nat} : KOK P B (fun _ => none) := fun f k h => (by cases h)
theorem KOK.add {B : Nat} {K : PureK} (hK : KOK P B K) {f : FuncId} {k : List AV → Option AV} (hk : HookOK P B f (fun args h => (k args).map fun v => (v, h))) : KOK P B (addK K f k) := by
  intro g k' hg
  simp only [addK] at hg
  split at hg
  · rename_i e; subst e; cases hg; exact hk
  · exact hK g k' hg
end Go.Proofs.YtobhmahlenjheaaM
