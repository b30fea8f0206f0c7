/- Operators and conversions, held against the model's. -/
import Derived.Test.YtobhmahlenjheaaM7
import Derived.LaidEqlPtr
import Derived.LaidEql
import Derived.Laws.StructEq
import Derived.Laws.BytesString
set_option linter.unusedSimpArgs false
set_option linter.unusedVariables false
namespace Go.Proofs.YtobhmahlenjheaaM
open Go Go.RowKit

variable {P : Program} {B : Nat} {φ : Nat → Loc} {h : AH} {w : World}

theorem mk_toList (l : List UInt8) : (⟨⟨l⟩⟩ : ByteArray).toList = l := by rw [ByteArray.toList_eq]

/-! ### Equality -/
theorem eqCell_sound {N : Nat → Prop} {t : TypeId} {x y : AV} {x' y' : Value} {b : Bool} (he : aeqCell (P.underlying t) x y = some b) (hx : VR N φ x x') (hy : VR N φ y y') (d : Nat) (w : World) :
    (Op.equalIn (d + 1) t x' y').run P w = .ok b w := by
  unfold aeqCell at he
  split at he
  · rename_i hu; cases hx; cases hy; cases he; simp [Op.equalIn, run_underlying hu]
  · rename_i hu; cases hx; cases hy
    split at he
    · rename_i hk; cases he; simp [Op.equalIn, run_underlying hu, hk]
    · cases he
  · rename_i hu; cases hx; cases hy; cases he; simp only [Op.equalIn, Sem.run_bind, run_underlying hu, Result.andThen_ok, Sem.run_pure, beq_toListBytes, mk_toList]
  all_goals first | (cases he; done) | (rename_i hu; cases hx; cases hy; cases he; simp [Op.equalIn, run_underlying hu])

theorem eq_sound {N : Nat → Prop} : ∀ (d : Nat) {t : TypeId} {x y : AV} {x' y' : Value} {b : Bool}, aeq P d t x y = some b → VR N φ x x' → VR N φ y y' → ∀ (D : Nat) (w : World), d ≤ D → (Op.equalIn D t x' y').run P w = .ok b w
  | 0, _, _, _, _, _, _, he, _, _, _, _, _ => by simp [aeq] at he
  | d + 1, t, x, y, x', y', b, he, hx, hy, D, w, hD => by
    obtain ⟨D, rfl⟩ : ∃ k, D = k + 1 := ⟨D - 1, by omega⟩
    unfold aeq at he
    split at he
    · rename_i fs xs ys hu
      cases hx with
      | agg _ us hl hv =>
      cases hy with
      | agg _ vs hl' hv' =>
      split at he
      · cases he
      rename_i hstood
      have hstood' : P.stoodInHeld t = false := by simpa using hstood
      have hf : P.fieldsOf t = fs := by simp [Program.fieldsOf, hu]
      rw [run_equalIn_struct w D t us vs (by rw [hf]; exact hu) hstood', hf]
      have ux : VRs N φ xs us.toList := ⟨by simpa using hl, fun i x v hx hv0 => hv i x v hx (by simpa using hv0)⟩
      have uy : VRs N φ ys vs.toList := ⟨by simpa using hl', fun i x v hx hv0 => hv' i x v hx (by simpa using hv0)⟩
      generalize fs.toList = l at he
      clear hu hf
      induction l with
      | nil => simp only [eqFields] at he; cases he; simp [Op.eqFields]
      | cons f l ih =>
        simp only [eqFields] at he
        split at he
        · rename_i hn
          simp only [Op.eqFields, hn, ne_eq, not_true_eq_false, if_false]
          exact ih he
        · rename_i hn
          split at he
          · rename_i a c ha hc
            obtain ⟨a', ha', hav⟩ := run_part' ha ux w
            obtain ⟨c', hc', hcv⟩ := run_part' hc uy w
            split at he
            · rename_i hq
              have := eq_sound d hq hav hcv D w (by omega)
              simp only [Op.eqFields, hn, ne_eq, not_false_eq_true, if_true, Sem.run_bind, ha', hc', this, Result.andThen_ok, Bool.not_true, Bool.false_eq_true, if_false]
              exact ih he
            · rename_i hq
              cases he
              have := eq_sound d hq hav hcv D w (by omega)
              simp [Op.eqFields, hn, ha', hc', this]
            · cases he
          · cases he
    · rename_i n e xs ys hu
      cases hx with
      | agg _ us hl hv =>
      cases hy with
      | agg _ vs hl' hv' =>
      split at he
      rotate_left
      · cases he
      rename_i s hs
      obtain ⟨i, hi, his⟩ := info_of_szOf hs
      have hcell : P.cellsOf e = s := by simp [Program.cellsOf, hi, his]
      rw [run_equalIn_array w D us vs hu hi, hcell]
      have ux : VRs N φ xs us.toList := ⟨by simpa using hl, fun i x v hx hv0 => hv i x v hx (by simpa using hv0)⟩
      have uy : VRs N φ ys vs.toList := ⟨by simpa using hl', fun i x v hx hv0 => hv' i x v hx (by simpa using hv0)⟩
      generalize List.range n = l at he
      clear hu
      induction l with
      | nil => simp only [eqElems] at he; cases he; simp [Op.eqItems]
      | cons j l ih =>
        simp only [eqElems] at he
        split at he
        · rename_i a c ha hc
          obtain ⟨a', ha', hav⟩ := run_part' ha ux w
          obtain ⟨c', hc', hcv⟩ := run_part' hc uy w
          split at he
          · rename_i hq
            have := eq_sound d hq hav hcv D w (by omega)
            simp only [Op.eqItems, Sem.run_bind, ha', hc', this, Result.andThen_ok, Bool.not_true, Bool.false_eq_true, if_false]
            exact ih he
          · rename_i hq
            cases he
            have := eq_sound d hq hav hcv D w (by omega)
            simp [Op.eqItems, ha', hc', this]
          · cases he
        · cases he
    · rename_i te i o j p hu
      cases hx; cases hy
      split at he
      · rename_i hcond
        obtain ⟨rfl, rfl, hs⟩ := hcond
        cases he
        obtain ⟨s, hs⟩ := Option.isSome_iff_exists.1 hs
        obtain ⟨i, hi, his⟩ := info_of_szOf hs
        simp [Op.equalIn, run_underlying hu, sizeOf, typeInfo, hi, run_sameAddr_same]
      · cases he
    · exact eqCell_sound he hx hy D w

/-! ### Operators -/
theorem int_sound (op : BinOp) (k : IntKind) (t : TypeId) (a b : Int) {v : AV} (hv : aint op k a b = some v) (N : Nat → Prop) (φ : Nat → Loc) (w : World) :
    ∃ v', (binOp op t (.int k a) (.int k b)).run P w = .ok v' w ∧ VR N φ v v' := by
  cases op <;> simp only [aint] at hv <;>
    first
    | (cases hv; refine ⟨_, ?_, .int _ _⟩; simp only [binOp, ne_eq, not_true_eq_false, if_false, Op.intArith, Op.intBits, Sem.run_pure])
    | (cases hv; refine ⟨_, ?_, .bool _⟩; simp only [binOp, ne_eq, not_true_eq_false, if_false, Op.intCmp, Sem.run_pure])
    | (split at hv
       · cases hv
       · rename_i hb; cases hv; refine ⟨_, ?_, .int _ _⟩; simp only [binOp, ne_eq, not_true_eq_false, if_false, Op.intDiv, hb, Sem.run_pure])
    | cases hv

theorem shift_sound (op : BinOp) (k k' : IntKind) (t : TypeId) (a b : Int) {v : AV} (hv : ashift op k a b = some v) (N : Nat → Prop) (φ : Nat → Loc) (w : World) :
    ∃ v', (binOp op t (.int k a) (.int k' b)).run P w = .ok v' w ∧ VR N φ v v' := by
  unfold ashift at hv
  split at hv
  · cases hv
  rename_i hb
  cases op <;> simp only at hv <;> first | (cases hv; refine ⟨_, ?_, .int _ _⟩; simp only [binOp, Op.shift, hb, if_false, Sem.run_pure]) | cases hv

theorem strop_sound (op : BinOp) (t : TypeId) (a b : List UInt8) {v : AV} (hv : astrop op a b = some v) (N : Nat → Prop) (φ : Nat → Loc) (w : World) :
    ∃ v', (binOp op t (.string ⟨⟨a⟩⟩) (.string ⟨⟨b⟩⟩)).run P w = .ok v' w ∧ VR N φ v v' := by
  have e : ∀ op, (binOp op t (.string ⟨⟨a⟩⟩) (.string ⟨⟨b⟩⟩)) = Op.stringOp op ⟨⟨a⟩⟩ ⟨⟨b⟩⟩ := fun op => by cases op <;> rfl
  rw [e]
  unfold astrop at hv
  cases op <;> simp only at hv <;> try (cases hv; done)
  · split at hv
    · rename_i hl
      cases hv
      refine ⟨.string (⟨⟨a⟩⟩ ++ ⟨⟨b⟩⟩), ?_, ?_⟩
      · have h1 : ¬ (((⟨⟨a⟩⟩ : ByteArray).size + (⟨⟨b⟩⟩ : ByteArray).size : Nat) : Int) > IntKind.i64.max := by
          have h2 : (⟨⟨a⟩⟩ : ByteArray).size = a.length := rfl
          have h3 : (⟨⟨b⟩⟩ : ByteArray).size = b.length := rfl
          rw [h2, h3]
          unfold sizeCap at hl
          simp only [IntKind.max, IntKind.signed, IntKind.bits]
          simp only [if_true]
          omega
        simp only [Op.stringOp, if_neg h1, Sem.run_pure]
      · have e2 : ((⟨⟨a⟩⟩ : ByteArray) ++ ⟨⟨b⟩⟩) = ⟨⟨a ++ b⟩⟩ := by
          apply ByteArray.ext
          rw [ByteArray.data_append]
          simp
        rw [e2]
        exact .str _
    · cases hv
  all_goals (cases hv; refine ⟨_, ?_, .bool _⟩; simp only [Op.stringOp, mk_toList, Sem.run_pure])

theorem guard_plain {op : BinOp} {t : TypeId} {x y : Operand} {a b : Value} (h1 : ¬ (a = .nilIface ∧ b = .nilIface)) (h2 : ¬ ((∃ xs, a = .agg xs) ∧ ∃ ys, b = .agg ys)) (w : World) :
    (eqGuard op t x y a b).run P w = .ok () w := by
  by_cases hop : op = .eql ∨ op = .neq
  · cases a
    case nilIface => cases b <;> first | exact absurd ⟨rfl, rfl⟩ h1 | (rcases hop with rfl | rfl <;> rfl)
    case agg xs => cases b <;> first | exact absurd ⟨⟨_, rfl⟩, ⟨_, rfl⟩⟩ h2 | (rcases hop with rfl | rfl <;> rfl)
    all_goals (rcases hop with rfl | rfl <;> rfl)
  · cases op <;> first | rfl | (simp at hop)

theorem bin_eq (t : TypeId) (op : BinOp) (hop : op = .eql ∨ op = .neq) {x' y' : Value} {b : Bool} (he : (Op.equalIn 10000 t x' y').run P w = .ok b w)
    (hi : ¬ ∃ k a, x' = .int k a) (hs : ¬ ∃ s, x' = .string s) (hf : ¬ ∃ k a, x' = .float k a) (hc : ¬ ∃ k a b, x' = .complex k a b) :
    (binOp op t x' y').run P w = .ok (.bool (if op = .eql then b else !b)) w := by
  have hq : (Op.equal t x' y').run P w = .ok b w := he
  rcases hop with rfl | rfl
  · cases x' <;> first | exact absurd ⟨_, _, rfl⟩ hi | exact absurd ⟨_, rfl⟩ hs | exact absurd ⟨_, _, rfl⟩ hf | exact absurd ⟨_, _, _, rfl⟩ hc | simp [binOp, hq]
  · cases x' <;> first | exact absurd ⟨_, _, rfl⟩ hi | exact absurd ⟨_, rfl⟩ hs | exact absurd ⟨_, _, rfl⟩ hf | exact absurd ⟨_, _, _, rfl⟩ hc | simp [binOp, hq]

end Go.Proofs.YtobhmahlenjheaaM
