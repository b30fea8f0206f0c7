/- Binary and unary operators as operations, conversions, max and min. -/
import Derived.Test.YtobhmahlenjheaaM8
set_option linter.unusedSimpArgs false
set_option linter.unusedVariables false
namespace Go.Proofs.YtobhmahlenjheaaM
open Go Go.RowKit

variable {P : Program} {B : Nat} {φ : Nat → Loc} {h : AH} {w : World}

theorem eqForm_shape {N : Nat → Prop} {x : AV} {v : Value} (hf : eqForm x = true) (hx : VR N φ x v) :
    (¬ ∃ k a, v = .int k a) ∧ (¬ ∃ s, v = .string s) ∧ (¬ ∃ k a, v = .float k a) ∧ (¬ ∃ k a b, v = .complex k a b) ∧ (v = .nilIface → isNilI x = true) ∧ ((∃ xs, v = .agg xs) → isAggV x = true) := by
  cases hx with
  | val v => unfold eqForm at hf; split at hf <;> first | (cases hf; done) | (rename_i he; cases he; done) | (rename_i he; cases he; simp [isNilI, isAggV]; done)
  | int k m => cases hf
  | str l => cases hf
  | tup xs vs hl h => cases hf
  | any v => cases hf
  | _ => simp [isAggV]

theorem eqOp_sound {N : Nat → Prop} {op : BinOp} {t : TypeId} {x y : Operand} {a b v : AV} {a' b' : Value} (hv : aeqOp P op t (isConst x) (isConst y) a b = some v) (ha : VR N φ a a') (hb : VR N φ b b') (w : World) :
    ∃ v', (do eqGuard op t x y a' b'; binOp op t a' b' : Sem Value).run P w = .ok v' w ∧ VR N φ v v' := by
  unfold aeqOp at hv
  split at hv
  rotate_left
  · cases hv
  rename_i hop
  split at hv
  rotate_left
  · cases hv
  rename_i hc
  simp only [Bool.and_eq_true] at hc
  obtain ⟨⟨⟨hfa, hfb⟩, hnil⟩, hagg⟩ := hc
  cases he : aeq P 8 t a b with
  | none => simp [he] at hv
  | some q =>
    simp [he] at hv
    subst hv
    obtain ⟨s1, s2, s3, s4, s5, s6⟩ := eqForm_shape hfa ha
    obtain ⟨t1, t2, t3, t4, t5, t6⟩ := eqForm_shape hfb hb
    have hbin := bin_eq (P := P) (w := w) t op hop (eq_sound 8 he ha hb 10000 w (by omega)) s1 s2 s3 s4
    refine ⟨.bool (if op = .eql then q else !q), ?_, .bool _⟩
    have hg : (eqGuard op t x y a' b').run P w = .ok () w := by
      by_cases hn : a' = .nilIface ∧ b' = .nilIface
      · obtain ⟨rfl, rfl⟩ := hn
        rw [s5 rfl, t5 rfl] at hnil
        simp only [Bool.and_self, Bool.not_true, Bool.false_or, Bool.or_eq_true] at hnil
        rcases hnil with h1 | h1
        · cases x <;> first | (cases h1; done) | (rcases hop with rfl | rfl <;> rfl)
        · cases y <;> first | (cases h1; done) | (cases x <;> rcases hop with rfl | rfl <;> rfl)
      · by_cases hg : (∃ xs, a' = .agg xs) ∧ ∃ ys, b' = .agg ys
        · obtain ⟨⟨xs, rfl⟩, ys, rfl⟩ := hg
          rw [s6 ⟨_, rfl⟩, t6 ⟨_, rfl⟩] at hagg
          simp at hagg
          exact run_eqGuard_agg w op t x y xs ys hagg
        · exact guard_plain hn hg w
    simp only [Sem.run_bind, hg, Result.andThen_ok, hbin]

theorem bin_sound {N : Nat → Prop} {op : BinOp} {t : TypeId} {x y : Operand} {a b v : AV} {a' b' : Value} (hv : abin P op t (isConst x) (isConst y) a b = some v) (ha : VR N φ a a') (hb : VR N φ b b') (w : World) :
    ∃ v', (do eqGuard op t x y a' b'; binOp op t a' b' : Sem Value).run P w = .ok v' w ∧ VR N φ v v' := by
  unfold abin at hv
  split at hv
  · cases ha
    cases hb
    rename_i k a k' b
    have hg := guard_plain (P := P) (op := op) (t := t) (x := x) (y := y) (a := .int k a) (b := .int k' b) (by simp) (by simp) w
    simp only [Sem.run_bind, hg, Result.andThen_ok]
    split at hv
    · exact shift_sound op k k' t a b hv N φ w
    · split at hv
      · rename_i hk
        subst hk
        exact int_sound op k t a b hv N φ w
      · cases hv
  · cases ha
    cases hb
    rename_i a b
    have hg := guard_plain (P := P) (op := op) (t := t) (x := x) (y := y) (a := .string ⟨⟨a⟩⟩) (b := .string ⟨⟨b⟩⟩) (by simp) (by simp) w
    simp only [Sem.run_bind, hg, Result.andThen_ok]
    exact strop_sound op t a b hv N φ w
  · exact eqOp_sound hv ha hb w

theorem un_sound {N : Nat → Prop} {op : UnOp} {x v : AV} {x' : Value} (hv : aun op x = some v) (hx : VR N φ x x') (w : World) : ∃ v', (Op.unary op x').run P w = .ok v' w ∧ VR N φ v v' := by
  unfold aun at hv
  split at hv
  · cases hx
    simp only [aint] at hv
    cases hv
    exact ⟨_, rfl, .int _ _⟩
  · cases hx
    simp only [aint] at hv
    cases hv
    exact ⟨_, rfl, .int _ _⟩
  · cases hx
    cases hv
    exact ⟨_, rfl, .bool _⟩
  · cases hv

/-! ### max and min -/
theorem maxmin_from {N : Nat → Prop} (isMax : Bool) (k : IntKind) : ∀ (l : List AV) (vs : List Value) (a : Int) {v : AV}, amaxminFrom isMax k a l = some v → VRs N φ l vs → ∀ w : World,
    ∃ v', (vs.foldlM (if isMax then Builtin.max2 else Builtin.min2) (Value.int k a)).run P w = .ok v' w ∧ VR N φ v v'
  | [], [], a, v, hv, _, w => by simp only [amaxminFrom] at hv; cases hv; exact ⟨_, rfl, .int _ _⟩
  | x :: l, u :: vs, a, v, hv, hl, w => by
    have hx := hl.head
    cases x with
    | int k' b =>
      cases hx
      simp only [amaxminFrom] at hv
      obtain ⟨v', hr, hvr⟩ := maxmin_from isMax k l vs _ hv hl.tail w
      refine ⟨v', ?_, hvr⟩
      rw [List.foldlM_cons]
      cases isMax
      · simp only [Bool.false_eq_true, if_false, Sem.run_bind, Builtin.min2, Sem.run_pure, Result.andThen_ok] at hr ⊢
        exact hr
      · simp only [if_true, Sem.run_bind, Builtin.max2, Sem.run_pure, Result.andThen_ok] at hr ⊢
        exact hr
    | _ => simp [amaxminFrom] at hv
  | [], _ :: _, _, _, _, hl, _ => by have := hl.1; simp at this
  | _ :: _, [], _, _, _, hl, _ => by have := hl.1; simp at this

theorem maxmin_sound {N : Nat → Prop} (isMax : Bool) {args : List AV} {args' : List Value} {v : AV} (hv : amaxmin isMax args = some v) (ha : VRs N φ args args') (at_ : Array TypeId) (ty : TypeId) (w : World) :
    ∃ v', (if isMax then Builtin.max_ at_ ty args'.toArray else Builtin.min_ at_ ty args'.toArray).run P w = .ok v' w ∧ VR N φ v v' := by
  unfold amaxmin at hv
  split at hv
  · rename_i k a rest
    match args', ha with
    | [], ha => have := ha.1; simp at this
    | u :: us, ha =>
      have hh := ha.head
      cases hh
      obtain ⟨v', hr, hvr⟩ := maxmin_from (P := P) isMax k rest us a hv ha.tail w
      refine ⟨v', ?_, hvr⟩
      cases isMax
      · simpa [Builtin.min_] using hr
      · simpa [Builtin.max_] using hr
  · cases hv

end Go.Proofs.YtobhmahlenjheaaM
