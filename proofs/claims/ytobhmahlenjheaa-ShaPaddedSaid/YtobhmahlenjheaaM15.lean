/- Drawn regions: where each operation that writes is ordered with each one that reads or writes, and temporaries are ordered, all orders come to what the text's order does. -/
import Derived.Test.YtobhmahlenjheaaM14
set_option linter.unusedSimpArgs false
set_option linter.unusedVariables false
namespace Go.Proofs.YtobhmahlenjheaaM
open Go Go.RowKit

variable {P : Program} {B : Nat} {φ : Nat → Loc} {h : AH} {w : World}

/-- A function that leaves all memory as it is: one that looks at none of it, or one that does. -/
inductive PK where
  | pure (k : List AV → Option AV)
  | read (k : List AV → AH → Option AV)

abbrev PTab := FuncId → Option PK

def PK.run (p : PK) (args : List AV) (h : AH) : Option (AV × AH) :=
  match p with
  | .pure k => (k args).map fun v => (v, h)
  | .read k => (k args h).map fun v => (v, h)

def withTab (T : PTab) (callF : CallF) : CallF := fun f args h =>
  match T f with
  | some p => p.run args h
  | none => callF f args h

def PTabOK (P : Program) (B : Nat) (T : PTab) : Prop := ∀ f p, T f = some p → HookOK P B f p.run

theorem withTab_ok {T : PTab} (hT : PTabOK P B T) {callF : CallF} (hC : CallOK P B callF) : CallOK P B (withTab T callF) := by
  intro f args h v h' hr
  unfold withTab at hr
  split at hr
  · rename_i p hp; exact hT f p hp args h v h' hr
  · exact hC f args h v h' hr

inductive Kind where
  | free | read | write
  deriving DecidableEq

def kindCall (P : Program) (T : PTab) (c : Call) : Kind :=
  match c.callee with
  | .builtin .len => match (c.argTypes[0]?).map P.underlying with
    | some (some .string) => .free
    | some (some (.slice _)) => .free
    | some (some (.array _ _)) => .free
    | _ => .read
  | .builtin .max => .free
  | .builtin .min => .free
  | .builtin .unsafeSliceData => .free
  | .value (.func f) => match T f with
    | some (.pure _) => .free
    | some (.read _) => .read
    | none => .write
  | _ => .write

def kindOf (P : Program) (T : PTab) (o : Op) : Kind :=
  match o with
  | .move _ | .assign _ | .pick _ _ _ | .build _ _ | .nilCheck _ | .binOp _ _ _ _ _ | .unOp _ _ _ | .makeInterface _ _ | .makeFunc _ _ _
  | .fieldAddr _ _ _ | .field _ _ _ | .indexAddr _ _ _ | .index _ _ _ | .typeAssert _ _ _ _ | .extract _ _ => .free
  | .convert s d _ => match P.underlying d with
    | some (.int _) => .free
    | some .string => .read
    | _ => .write
  | .slice t _ _ _ _ => match P.underlying t with
    | some .string => .free
    | some (.slice _) => .free
    | _ => .read
  | .load _ _ => .read
  | .lookup _ _ _ _ => .read
  | .call c => kindCall P T c
  | _ => .write

theorem map_pair {α : Type} {x : Option α} {h h' : AH} {v : α} (e : (x.map fun v => (v, h)) = some (v, h')) : h' = h ∧ x = some v := by
  cases x with
  | none => cases e
  | some y => cases e; exact ⟨rfl, rfl⟩

theorem free_slice {t : TypeId} (hf : P.underlying t = some .string ∨ ∃ e, P.underlying t = some (.slice e)) (x : AV) (lo hi mx : Option AV) (h g : AH) : aslice P t x lo hi mx h = aslice P t x lo hi mx g := by
  unfold aslice
  split
  · rfl
  · rcases hf with hf | ⟨e, hf⟩ <;> simp only [hf] <;> cases x <;> first
      | rfl
      | (rename_i v; cases v <;> first
          | rfl
          | (rename_i a b c; cases a <;> first
              | rfl
              | (cases b <;> first | rfl | (cases c <;> rfl))))

theorem free_len {t : TypeId} (hf : P.underlying t = some .string ∨ (∃ e, P.underlying t = some (.slice e)) ∨ ∃ n e, P.underlying t = some (.array n e)) (x : AV) (h g : AH) : alenOf P t x h = alenOf P t x g := by
  unfold alenOf
  rcases hf with hf | ⟨e, hf⟩ | ⟨n, e, hf⟩ <;> simp only [hf] <;> cases x <;> first
    | rfl
    | (rename_i v; cases v <;> first
        | rfl
        | (rename_i a b c; cases a <;> rfl))

theorem kind_free {T : PTab} {callF : CallF} {env : List AV} {o : Op} (hk : kindOf P T o = .free) {v : AV} {h h' : AH} (ho : aop P (withTab T callF) env o h = some (v, h')) : h' = h ∧ ∀ g, aop P (withTab T callF) env o g = some (v, g) := by
  unfold kindOf at hk
  split at hk <;> first
    | (cases hk; done)
    | (simp only [aop] at ho ⊢; cases ho; exact ⟨rfl, fun _ => rfl⟩)
    | (simp only [aop] at ho ⊢; obtain ⟨e1, e2⟩ := map_pair ho; exact ⟨e1, fun g => by rw [e2]; rfl⟩)
    | skip
  · simp only [aop] at ho ⊢
    split at ho
    · cases ho; exact ⟨rfl, fun _ => rfl⟩
    · cases ho
  · simp only [aop] at ho ⊢
    split at ho <;> cases ho <;> exact ⟨rfl, fun _ => rfl⟩
  · simp only [aop] at ho ⊢
    split at ho <;> cases ho
    exact ⟨rfl, fun _ => rfl⟩
  · simp only [aop] at ho ⊢
    split at ho
    · obtain ⟨e1, e2⟩ := map_pair ho; exact ⟨e1, fun g => by rw [e2]; rfl⟩
    · cases ho
  · split at hk
    · rename_i k hu
      simp only [aop, aconv, hu] at ho ⊢
      revert ho
      generalize evalOp env _ = y
      intro ho
      cases hs : P.underlying _ with
      | none => simp only [hs] at ho; cases ho
      | some d =>
        simp only [hs] at ho ⊢
        cases y <;> first | (cases ho; exact ⟨rfl, fun _ => rfl⟩) | (split at ho <;> simp_all)
    · cases hk
    · cases hk
  · split at hk
    · rename_i hu
      simp only [aop] at ho ⊢
      obtain ⟨e1, e2⟩ := map_pair ho
      exact ⟨e1, fun g => by rw [free_slice (.inl hu) _ _ _ _ g h, e2]; rfl⟩
    · rename_i e hu
      simp only [aop] at ho ⊢
      obtain ⟨e1, e2⟩ := map_pair ho
      exact ⟨e1, fun g => by rw [free_slice (.inr ⟨e, hu⟩) _ _ _ _ g h, e2]; rfl⟩
    · cases hk
  · rename_i c
    unfold kindCall at hk
    simp only [aop, acall1] at ho ⊢
    split at hk
    · rename_i hc
      simp only [hc, abuiltin] at ho ⊢
      cases ht : c.argTypes[0]? with
      | none => simp only [ht] at ho; cases ho
      | some t =>
        simp only [ht, Option.map_some] at hk ho ⊢
        have hf : P.underlying t = some .string ∨ (∃ e, P.underlying t = some (.slice e)) ∨ ∃ n e, P.underlying t = some (.array n e) := by
          split at hk
          · rename_i e; left; exact Option.some.inj e
          · rename_i e; right; left; exact ⟨_, Option.some.inj e⟩
          · rename_i e; right; right; exact ⟨_, _, Option.some.inj e⟩
          · cases hk
        split at ho
        · rename_i t' x e1 e2
          cases e1
          obtain ⟨e3, e4⟩ := map_pair ho
          exact ⟨e3, fun g => by rw [free_len hf _ g h, e4]; rfl⟩
        · cases ho
    · rename_i hc
      simp only [hc, abuiltin] at ho ⊢
      obtain ⟨e1, e2⟩ := map_pair ho; exact ⟨e1, fun g => by rw [e2]; rfl⟩
    · rename_i hc
      simp only [hc, abuiltin] at ho ⊢
      obtain ⟨e1, e2⟩ := map_pair ho; exact ⟨e1, fun g => by rw [e2]; rfl⟩
    · rename_i hc
      simp only [hc, abuiltin, asliceData] at ho ⊢
      split at ho
      · cases ho; exact ⟨rfl, fun _ => rfl⟩
      · split at ho
        · rename_i hl; cases ho; exact ⟨rfl, fun _ => by rw [if_pos hl]⟩
        · cases ho
      · cases ho
    · rename_i f hc
      simp only [hc, evalOp, List.nil_append, List.append_nil, withTab] at ho ⊢
      split at hk
      · rename_i k hT
        simp only [hT, PK.run] at ho ⊢
        obtain ⟨e1, e2⟩ := map_pair ho; exact ⟨e1, fun g => by rw [e2]; rfl⟩
      · cases hk
      · cases hk
    · cases hk

theorem kind_read {T : PTab} {callF : CallF} {env : List AV} {o : Op} (hk : kindOf P T o = .read) {v : AV} {h h' : AH} (ho : aop P (withTab T callF) env o h = some (v, h')) : h' = h := by
  unfold kindOf at hk
  split at hk <;> first
    | (cases hk; done)
    | (simp only [aop] at ho; exact (map_pair ho).1)
    | skip
  · split at hk
    · cases hk
    · rename_i hu
      simp only [aop, aconv, hu] at ho
      split at ho
      all_goals first
        | (cases ho; rfl)
        | (cases ho; done)
        | (exfalso; simp_all; done)
        | (split at ho <;> first
            | (cases ho; done)
            | (exfalso; simp_all; done)
            | (split at ho <;> first
                | (cases ho; done)
                | (exfalso; simp_all; done)
                | (obtain ⟨l, _, e⟩ := Option.map_eq_some_iff.1 ho; cases e; rfl)))
    · cases hk
  · rename_i c
    unfold kindCall at hk
    simp only [aop, acall1] at ho
    split at hk
    · rename_i hc
      simp only [hc, abuiltin] at ho
      split at ho
      · exact (map_pair ho).1
      · cases ho
    · cases hk
    · cases hk
    · cases hk
    · rename_i f hc
      simp only [hc, evalOp, List.nil_append, List.append_nil, withTab] at ho
      split at hk
      · cases hk
      · rename_i k hT
        simp only [hT, PK.run] at ho
        exact (map_pair ho).1
      · cases hk
    · cases hk
end Go.Proofs.YtobhmahlenjheaaM
