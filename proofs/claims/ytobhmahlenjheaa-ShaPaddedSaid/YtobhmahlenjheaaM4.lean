/- append, copy, composites, makes, slices and addresses, held against the model's. -/
import Derived.Test.YtobhmahlenjheaaM3
set_option linter.unusedSimpArgs false
set_option linter.unusedVariables false
set_option linter.unusedSectionVars false
namespace Go.Proofs.YtobhmahlenjheaaM
open Go Go.RowKit

variable {P : Program} {B : Nat} {φ : Nat → Loc} {h : AH} {w : World}

theorem sliceElem_some {t e : TypeId} (hs : sliceElem P t = some e) : P.underlying t = some (.slice e) := by
  unfold sliceElem at hs
  split at hs
  · rename_i e' he; cases hs; exact he
  · cases hs

theorem growBy_le (L : Nat) : ∀ (r c : Nat), Builtin.growBy L r c ≤ max c (2 * L + 192)
  | 0, c => by simp [Builtin.growBy]; omega
  | r + 1, c => by
    simp only [Builtin.growBy]
    split
    · omega
    · have := growBy_le L r (c + (c + 768) / 4)
      omega

theorem nextcap_le (need cap : Nat) (hc : cap < need) : Builtin.nextslicecap need cap ≤ 2 * need + 192 := by
  unfold Builtin.nextslicecap
  split
  · omega
  · split
    · omega
    · have := growBy_le need 4 cap
      omega

theorem nextcap_ok {need cap bytes : Nat} (hc : cap < need) (hb : need * (bytes + 1) ≤ sizeCap) : ¬ Builtin.nextslicecap need cap * bytes > 2 ^ 48 := by
  have h1 := nextcap_le need cap hc
  have h2 : Builtin.nextslicecap need cap * bytes ≤ (2 * need + 192) * bytes := Nat.mul_le_mul_right _ h1
  have h3 : (2 * need + 192) * bytes ≤ 194 * (need * (bytes + 1)) := by
    have : 192 * bytes ≤ 192 * (need * bytes) := Nat.mul_le_mul_left _ (Nat.le_mul_of_pos_left _ (by omega))
    rw [Nat.add_mul, Nat.mul_add need, Nat.mul_assoc]
    omega
  unfold sizeCap at hb
  omega

theorem zeroCells_size (zs : Array Value) (n : Nat) : (Builtin.zeroCells zs n).size = n * zs.size := by simp [Builtin.zeroCells]

theorem aroom_some {i : TypeInfo} {need : Nat} (hr : aroom i need = true) : need * (i.bytes + 1) ≤ sizeCap ∧ 0 < i.size ∧ ∃ z, i.zero = some z ∧ z.cells.size = i.size := by
  unfold aroom at hr
  simp only [Bool.and_eq_true, decide_eq_true_eq, beq_iff_eq] at hr
  obtain ⟨⟨h1, h2⟩, h3⟩ := hr
  refine ⟨h1, h2, ?_⟩
  cases hz : i.zero with
  | none => simp [hz] at h3
  | some z => simp [hz] at h3; exact ⟨z, rfl, h3⟩

/-- The slice that is appended to. -/
theorem append_shape {N : Nat → Prop} {e : TypeId} {sz n len : Nat} {xs : List AV} {s : AV} {s' : Value} {v : AV} {h h' : AH} (ha : aappendAt e sz n xs s h = some (v, h')) (hs : VR N φ s s') (hl : alen s = some len) :
    ∃ base cap, s' = .slice base len cap ∧ len ≤ cap := by
  cases hs with
  | val v =>
    unfold aappendAt at ha
    split at ha
    · rename_i he; cases he; simp only [alen] at hl; cases hl; exact ⟨none, 0, rfl, Nat.le_refl _⟩
    · rename_i he; cases he
    · cases ha
  | sl id off l esz a cap hid hl' ha' => simp only [alen] at hl; cases hl; exact ⟨some a, cap, rfl, hl'⟩
  | _ => simp [aappendAt] at ha

section
variable (argTypes : Array TypeId) (ty : TypeId) {st xt e : TypeId} {xd : TypeDesc} {i : TypeInfo} {z : Value} {base : Option Addr} {len cap n : Nat} {x' : Value}
    (hst : argTypes[0]? = some st) (hxt : argTypes[1]? = some xt) (hu : P.underlying st = some (.slice e)) (hxd : P.underlying xt = some xd) (hni : notInt xd = true) (hi : P.info? e = some i)
    (hz : i.zero = some z) (hn : (Builtin.lenOf x').run P w = .ok n w)
include hst hxt hu hxd hni hi hz hn

set_option maxHeartbeats 4000000 in
theorem run_append_room (hroom : len + n ≤ cap) :
    (Builtin.append_ argTypes ty #[.slice base len cap, x']).run P w =
      ((Builtin.firstCells i.size n x').run P w).andThen fun new w => ((match base with | some a => storeCells (a.add (len * i.size)) new.toList | none => pure ()).run P w).andThen fun _ w => .ok (.slice base (len + n) cap) w := by
  have hsizeOf : ∀ w : World, (sizeOf e).run P w = .ok i.size w := fun w => by simp [sizeOf, run_typeInfo' hi]
  cases xd
  case slice | string =>
    unfold Builtin.append_
    cases base <;> simp [hst, hxt, run_underlying hu, run_underlying hxd, hsizeOf, hn, hroom]
  all_goals cases hni

set_option maxHeartbeats 4000000 in
theorem run_append_grow (hsz : (len + n) * (i.bytes + 1) ≤ sizeCap) (hroom : cap < len + n) :
    (Builtin.append_ argTypes ty #[.slice base len cap, x']).run P w =
      ((Builtin.firstCells i.size len (.slice base len cap)).run P w.drew).andThen fun old w2 => ((Builtin.firstCells i.size n x').run P w2).andThen fun new w3 =>
        .ok (.slice (some ⟨w3.heap.size, 0, none⟩) (len + n) (Question.cut (.appendCap (len + n) cap e) (w.tape w.drawn (.appendCap (len + n) cap e))))
          (w3.alloc (.cells (old ++ (new ++ Builtin.zeroCells z.cells (Question.cut (.appendCap (len + n) cap e) (w.tape w.drawn (.appendCap (len + n) cap e)) - (len + n)))) e)) := by
  have hsizeOf : ∀ w : World, (sizeOf e).run P w = .ok i.size w := fun w => by simp [sizeOf, run_typeInfo' hi]
  have hzr : ∀ w : World, (zeroValue e).run P w = .ok z w := fun w => by simp [zeroValue, run_typeInfo' hi, hz]
  have hneed : len + n ≤ 1099511627776 := by
    have : (len + n) * 1 ≤ (len + n) * (i.bytes + 1) := Nat.mul_le_mul_left _ (by omega)
    unfold sizeCap at hsz; omega
  have hmax : ¬ (9223372036854775807 < (len : Int) + n) := by omega
  have hroom' : ¬ len + n ≤ cap := by omega
  have hnc : ¬ 281474976710656 < Builtin.nextslicecap (len + n) cap * i.bytes := by have := nextcap_ok hroom hsz; omega
  cases xd
  case slice | string =>
    unfold Builtin.append_
    simp [hst, hxt, run_underlying hu, run_underlying hxd, hsizeOf, hn, hroom', hmax, hnc, hzr, run_newRow, run_typeInfo' hi, Question.forced]
  all_goals cases hni

end

end Go.Proofs.YtobhmahlenjheaaM
