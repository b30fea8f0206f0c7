/- A law's arguments, opened: what a reading of plain data says of the values. -/
import Derived.Test.YtlpiiifmidehjaaDoorS4
import Derived.WalkKit
import Derived.ProofKit
import Derived.OpenShut
import Derived.ShutString
import Derived.ChangeOld
import Derived.Below
import Derived.SizedLaws
import Derived.Carry
import Derived.Deep.Slices
set_option linter.unusedSimpArgs false
set_option linter.unusedVariables false
namespace Go.Proofs.YtlpiiifmidehjaaDoorM
open Go Go.RowKit Go.ChangeShapes

theorem uncons {α : Type} {n : Nat} {l : List α} (h : l.length = n + 1) : ∃ c r, l = c :: r ∧ r.length = n := by
  cases l with
  | nil => cases h
  | cons c r => exact ⟨c, r, rfl, by simpa using h⟩
theorem unnil {α : Type} {l : List α} (h : l.length = 0) : l = [] := List.eq_nil_of_length_eq_zero h

section
variable {H : Type} {enc : TypeId × Value → H} {P : Program} {w : World} {base : Nat} {sp : Nat → Bool} {held : Bool}

theorem open_structK {r : Reach} {b0 : Nat} {t : TypeId} {fs : Array Field} {v : Value} {d : DataW H} {ps : List MemPlace} (ht : P.underlying t = some (.struct fs)) (hval : Value.okWide P w r b0 t v) (hd : DataW.Trod enc P w base sp held t v d ps) :
    ∃ (cl : List Value) (xs : List (DataW H × List MemPlace)) (n : Nat), v = .agg cl.toArray ∧ cl.length = P.cellsOf t ∧ xs.length = fs.size ∧
      ∀ (i : Nat) (f : Field), fs[i]? = some f → DataW.trod enc P w base sp held n f.type ((cl.drop f.offset).take (P.cellsOf f.type)) = xs[i]? := by
  unfold Value.okWide at hval
  rw [ht] at hval
  obtain ⟨cs, rfl, hsz, _⟩ := hval
  obtain ⟨fuel, hf⟩ := hd
  obtain ⟨xs, n, _, _, hl, hxl, hfs⟩ := DataW.trod_struct ht hf
  exact ⟨cs.toList, xs, n, by simp, by simpa [Value.cells] using hsz, hxl, by simpa [Value.cells] using hfs⟩

theorem open_arrayK {r : Reach} {b0 : Nat} {t e : TypeId} {m : Nat} {v : Value} {d : DataW H} {ps : List MemPlace} (ht : P.underlying t = some (.array m e)) (hval : Value.okWide P w r b0 t v) (hd : DataW.Trod enc P w base sp held t v d ps) :
    ∃ (cl : List Value) (n : Nat), v = .agg cl.toArray ∧ cl.length = P.cellsOf t ∧
      ∀ (i : Nat), i < m → ∃ y, DataW.trod enc P w base sp held n e ((cl.drop (i * P.cellsOf e)).take (P.cellsOf e)) = some y := by
  unfold Value.okWide at hval
  rw [ht] at hval
  obtain ⟨cs, rfl, hsz, _⟩ := hval
  obtain ⟨fuel, hf⟩ := hd
  obtain ⟨xs, n, _, _, hl, hxl, hfs⟩ := DataW.trod_array ht hf
  refine ⟨cs.toList, n, by simp, by simpa using hsz, fun i hi => ?_⟩
  have := hfs i hi
  rw [List.getElem?_eq_getElem (by omega)] at this
  exact ⟨_, this⟩

theorem field_at {fs : Array Field} {cl : List Value} {xs : List (DataW H × List MemPlace)} {n : Nat} (hf : ∀ (i : Nat) (f : Field), fs[i]? = some f → DataW.trod enc P w base sp held n f.type ((cl.drop f.offset).take (P.cellsOf f.type)) = xs[i]?)
    (hx : xs.length = fs.size) (i : Nat) (f : Field) (hi : fs[i]? = some f) (c : Value) (hc : (cl.drop f.offset).take (P.cellsOf f.type) = [c]) : ∃ y, DataW.trod enc P w base sp held n f.type [c] = some y := by
  have h1 := hf i f hi
  rw [hc] at h1
  have hlt : i < fs.size := (Array.getElem?_eq_some_iff.1 hi).1
  rw [List.getElem?_eq_getElem (by omega)] at h1
  exact ⟨_, h1⟩

theorem leaf_int {t : TypeId} {k : IntKind} {n : Nat} {c : Value} {y : DataW H × List MemPlace} (ht : P.underlying t = some (.int k)) (h : DataW.trod enc P w base sp held n t [c] = some y) : ∃ z, c = .int k z ∧ (Lit.int k z).wf = true := by
  obtain ⟨z, h1, _, h2⟩ := DataW.trod_int ht h
  simp at h1
  exact ⟨z, h1, h2⟩
theorem leaf_bool {t : TypeId} {n : Nat} {c : Value} {y : DataW H × List MemPlace} (ht : P.underlying t = some .bool) (h : DataW.trod enc P w base sp held n t [c] = some y) : ∃ z, c = .bool z := by
  cases n with
  | zero => simp [DataW.trod] at h
  | succ n =>
    unfold DataW.trod at h
    rw [ht] at h
    split at h <;> simp_all
theorem leaf_str {t : TypeId} {n : Nat} {c : Value} {y : DataW H × List MemPlace} (ht : P.underlying t = some .string) (h : DataW.trod enc P w base sp held n t [c] = some y) : ∃ s : List UInt8, c = .string ⟨⟨s⟩⟩ ∧ s.length ≤ maxLen := by
  obtain ⟨s, h1, _, h2⟩ := DataW.trod_string ht h
  simp at h1
  obtain ⟨⟨l⟩⟩ := s
  exact ⟨l, h1, by simpa [ByteArray.size] using h2⟩
end

/-- The bounds of a number. -/
theorem wf_i64 {n : Int} (h : (Lit.int .i64 n).wf = true) : -9223372036854775808 ≤ n ∧ n < 9223372036854775808 := by
  simp [Lit.wf, IntKind.min, IntKind.max, IntKind.bits, IntKind.signed] at h; omega
theorem wf_u64 {n : Int} (h : (Lit.int .u64 n).wf = true) : 0 ≤ n ∧ n < 18446744073709551616 := by
  simp [Lit.wf, IntKind.min, IntKind.max, IntKind.bits, IntKind.signed] at h; omega
theorem wf_u32 {n : Int} (h : (Lit.int .u32 n).wf = true) : 0 ≤ n ∧ n < 4294967296 := by
  simp [Lit.wf, IntKind.min, IntKind.max, IntKind.bits, IntKind.signed] at h; omega
theorem wf_u8 {n : Int} (h : (Lit.int .u8 n).wf = true) : 0 ≤ n ∧ n < 256 := by
  simp [Lit.wf, IntKind.min, IntKind.max, IntKind.bits, IntKind.signed] at h; omega

theorem VR.aggOf {N : Nat → Prop} {φ : Nat → Loc} {xs : List AV} {vs : List Value} (h : VRs N φ xs vs) : VR N φ (.agg xs) (.agg vs.toArray) :=
  .agg _ _ (by simpa using h.1) fun i x v hx hv => h.2 i x v hx (by simpa using hv)
end Go.Proofs.YtlpiiifmidehjaaDoorM
