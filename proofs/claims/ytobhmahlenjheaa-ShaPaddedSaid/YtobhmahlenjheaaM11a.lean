/- Bytes seen as a text where they lie, and the pointer to them. -/
import Derived.Test.YtobhmahlenjheaaM11
import Derived.Lib.UnsafeStr
set_option linter.unusedSimpArgs false
set_option linter.unusedVariables false
namespace Go.Proofs.YtobhmahlenjheaaM
open Go Go.RowKit

variable {P : Program} {B : Nat} {φ : Nat → Loc} {h : AH} {w : World}

theorem liesAt_row {e : TypeId} (hc : P.cellsOf e = 1) (count off n : Nat) (hn : off + n ≤ count) : liesAt P P.depth e count off e n = true := by
  have hd : P.depth = (2 * (P.types.size + Made.depth) + 1) + 1 := rfl
  rw [hd]
  simp only [liesAt, Bool.or_eq_true]
  left
  rw [hd]
  simp [rowAt, hc, hn, sameLayout, Nat.mod_one]

theorem run_loadBytesAt : ∀ (ns : List Int) (b o : Nat) (acc : ByteArray), (∀ j x, ns[j]? = some x → w.cell? ⟨b, o + j, none⟩ = some (.int .u8 x)) →
    (loadBytes ⟨b, o, none⟩ acc ns.length).run P w = .ok ⟨acc.data ++ (ns.map fun n => UInt8.ofNat n.toNat).toArray⟩ w
  | [], b, o, acc, _ => by simp [loadBytes]
  | x :: ns, b, o, acc, h => by
    have h0 : w.cell? ⟨b, o, none⟩ = some (.int .u8 x) := by simpa using h 0 x rfl
    have ih := run_loadBytesAt ns b (o + 1) (acc.push (x.toNat.toUInt8)) (fun j y hy => by
      have := h (j + 1) y (by simpa using hy)
      rw [← this]
      congr 2
      omega)
    have ea : (⟨b, o, none⟩ : Addr).add 1 = ⟨b, o + 1, none⟩ := by simp [Addr.add]
    simp only [List.length_cons, loadBytes, Sem.run_bind, run_load, h0, Result.andThen, ea]
    rw [ih]
    congr 1
    apply ByteArray.ext
    simp [ByteArray.push]

theorem freeze_any {b : Nat} {C : Array Value} {e : TypeId} {lo hi : Nat} (hb : w.heap[b]? = some (.cells C e (lo, hi))) (o n : Nat) : ∃ lo' hi', (w.freeze ⟨b, o, none⟩ n).heap[b]? = some (.cells C e (lo', hi')) := by
  unfold World.freeze
  split
  · exact ⟨_, _, hb⟩
  · simp only [Array.getElem?_modify, hb]
    simp only [if_true, Option.map_some]
    split
    · exact ⟨_, _, rfl⟩
    · exact ⟨_, _, rfl⟩

theorem sliceData_sound (r : Rel B φ h w) {at_ : Array TypeId} {ty : TypeId} {args : List AV} {args' : List Value} {v : AV} {h' : AH} (hb : asliceData args h = some (v, h')) (ha : VRs h.ok φ args args') :
    ∃ v' w', (Builtin.unsafeSliceData_ at_ ty args'.toArray).run P w = .ok v' w' ∧ Res B φ h w v h' v' w' := by
  unfold asliceData at hb
  split at hb
  · rename_i a b
    obtain ⟨x', rfl, hx⟩ := one_arg ha
    cases hx
    cases hb
    exact ⟨_, _, Lib.run_unsafeSliceData_nil w at_ ty _ _, Res.pure r (.val _)⟩
  · rename_i id off len sz
    obtain ⟨x', rfl, hx⟩ := one_arg ha
    split at hb
    rotate_left
    · cases hb
    rename_i hl
    cases hb
    cases hx with
    | sl _ _ _ _ a cap hid hle hac =>
      rcases hac with hc | ⟨rfl, hn⟩
      · omega
      · exact ⟨_, _, Lib.run_unsafeSliceData_row w at_ ty _ len cap (by omega), Res.pure r (.ptr id off hid)⟩
  · cases hb

theorem unsafeString_sound (r : Rel B φ h w) {at_ : Array TypeId} {ty pt : TypeId} {p : AV} {p' : Value} {n : Int} {v : AV} {h' : AH} (h0 : at_[0]? = some pt) (hb : aunsafeString P pt p n h = some (v, h')) (hp : VR h.ok φ p p') :
    ∃ v' w', (Builtin.unsafeString_ at_ ty #[p', .int .i64 n]).run P w = .ok v' w' ∧ Res B φ h w v h' v' w' := by
  have hmax : IntKind.i64.max = 9223372036854775807 := rfl
  unfold aunsafeString at hb
  split at hb
  · split at hb
    rotate_left
    · cases hb
    rename_i hn
    subst hn
    split at hb
    · rename_i id off
      cases hb
      cases hp with
      | ptr _ _ hid =>
        refine ⟨.string .empty, w, ?_, Res.pure r (.str [])⟩
        change ((asInt (Value.int .i64 0) >>= _ : Sem Value)).run P w = _
        simp [asInt, asIntOf, h0, hmax]
    · cases hb
      cases hp
      refine ⟨.string .empty, w, ?_, Res.pure r (.str [])⟩
      change ((asInt (Value.int .i64 0) >>= _ : Sem Value)).run P w = _
      simp [asInt, asIntOf, h0, hmax]
    · cases hb
  · rename_i hn
    have hn1 : ¬ n < 0 := by omega
    have hn2 : ¬ (9223372036854775807 : Int) < n := by omega
    have hn3 : n ≠ 0 := by omega
    split at hb
    rotate_left
    · cases hb
    rename_i e id off hpt
    split at hb
    rotate_left
    · cases hb
    rename_i c fz t b hg
    split at hb
    rotate_left
    · cases hb
    rename_i hcond
    obtain ⟨rfl, hcell, hle⟩ := hcond
    cases hab : abytes ((c.drop off).take n.toNat) with
    | none => simp [hab] at hb
    | some l =>
      simp [hab] at hb
      obtain ⟨rfl, rfl⟩ := hb
      obtain ⟨ns, hns, hl⟩ := abytes_map hab
      obtain ⟨C, e', lo, hi, h1, h2, h3, h4, h5, h6⟩ := r.cells hg
      obtain ⟨k1, k2⟩ := h6 _ _ rfl
      subst k1
      cases hp with
      | ptr _ _ hid =>
        have hlen : ns.length = n.toNat := by
          have := congrArg List.length hns
          simp at this
          omega
        have hvals : ∀ j x, ns[j]? = some x → w.cell? ⟨(φ id).b, (φ id).o + off + j, none⟩ = some (.int .u8 x) := fun j x hj => by
          rw [cell_at h1]
          have hjl : j < n.toNat := by
            rw [← hlen]
            rcases Nat.lt_or_ge j ns.length with h' | h'
            · exact h'
            · rw [List.getElem?_eq_none h'] at hj; cases hj
          have hcj : c[off + j]? = some (.int .u8 x) := by
            have e1 : ((c.drop off).take n.toNat)[j]? = some (.int .u8 x) := by rw [hns, List.getElem?_map, hj]; rfl
            rw [List.getElem?_take, if_pos hjl, List.getElem?_drop] at e1
            exact e1
          obtain ⟨u, hu, hr⟩ := h4.at hcj
          cases hr
          rw [List.getElem?_take] at hu
          split at hu
          · rw [List.getElem?_drop, Array.getElem?_toList] at hu
            rw [← hu]
            congr 1
            omega
          · cases hu
        have hload := run_loadBytesAt (P := P) (w := w) ns (φ id).b ((φ id).o + off) .empty hvals
        rw [hlen] at hload
        have hsh : w.shape? (φ id).b = some (e', C.size) := by unfold World.shape?; rw [h1]
        have hlies : liesAt P P.depth e' (C.size / P.cellsOf e') ((φ id).o + off) e' n.toNat = true := by
          rw [hcell, Nat.div_one]
          exact liesAt_row hcell _ _ _ (by omega)
        obtain ⟨lo', hi', hfr⟩ := freeze_any h1 ((φ id).o + off) n.toNat
        obtain ⟨r', s'⟩ := r.update hg rfl (freeze_turned w (φ id).b ((φ id).o + off) n.toNat) (.cells c false 0 (some (e', b))) (by
          rw [hfr]
          refine ⟨C, e', lo', hi', rfl, h2, h3, fun i x hx => ?_, fun hf => (by cases hf), h6⟩
          obtain ⟨u, hu, hr⟩ := h4.at hx
          rw [List.getElem?_take] at hu
          split at hu
          · rw [List.getElem?_drop, Array.getElem?_toList] at hu
            exact ⟨u, hu, hr⟩
          · cases hu)
        have hval : (⟨(ByteArray.empty : ByteArray).data ++ (ns.map fun n => UInt8.ofNat n.toNat).toArray⟩ : ByteArray) = ⟨⟨l⟩⟩ := by
          rw [hl]
          apply ByteArray.ext
          apply Array.ext'
          simp
        rw [hval] at hload
        refine ⟨.string ⟨⟨l⟩⟩, w.freeze ⟨(φ id).b, (φ id).o + off, none⟩ n.toNat, ?_, _, .str l, r', s'⟩
        change ((asInt (Value.int .i64 n) >>= _ : Sem Value)).run P w = _
        simp [asInt, asIntOf, h0, hmax, hn1, hn2, hn3, variablesAt, hsh, elemOf, run_underlying hpt, hlies, hload]
end Go.Proofs.YtobhmahlenjheaaM
