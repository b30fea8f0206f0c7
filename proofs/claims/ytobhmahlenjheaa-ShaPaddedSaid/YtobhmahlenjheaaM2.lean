/- The model's small runs (types, cells, loads, stores), said of the abstract machine's relation. -/
import Derived.Test.YtobhmahlenjheaaM1
import Derived.Laws.Sem
import Derived.Laws.Cells
import Derived.ChangeKeysEq
set_option linter.unusedSimpArgs false
set_option linter.unusedVariables false
namespace Go.Proofs.YtobhmahlenjheaaM
open Go Go.RowKit

variable {P : Program} {B : Nat} {φ : Nat → Loc} {h : AH} {w : World}

/-- The result of an operation: a value and a heap of the machine, and the model's. -/
def Res (B : Nat) (φ : Nat → Loc) (h : AH) (w : World) (v : AV) (h' : AH) (v' : Value) (w' : World) : Prop :=
  ∃ φ', VR h'.ok φ' v v' ∧ Rel B φ' h' w' ∧ Step φ h w φ' h' w'

theorem Res.pure {v : AV} {v' : Value} (r : Rel B φ h w) (hv : VR h.ok φ v v') : Res B φ h w v h v' w := ⟨φ, hv, r, Step.refl _ _ _⟩

/-! ### Types -/
theorem info_of_szOf {t : TypeId} {n : Nat} (hs : szOf P t = some n) : ∃ i, P.info? t = some i ∧ i.size = n := by
  unfold szOf at hs
  cases hi : P.info? t with
  | none => rw [hi] at hs; cases hs
  | some i => rw [hi] at hs; exact ⟨i, rfl, Option.some.inj hs⟩

theorem run_typeInfo' {t : TypeId} {i : TypeInfo} (hi : P.info? t = some i) (w : World) : (typeInfo t).run P w = .ok i w := by
  simp [typeInfo, hi]

theorem run_sizeOf' {t : TypeId} {n : Nat} (hs : szOf P t = some n) (w : World) : (sizeOf t).run P w = .ok n w := by
  obtain ⟨i, hi, hn⟩ := info_of_szOf hs
  simp [sizeOf, run_typeInfo' hi, hn]

theorem run_isAgg' {t : TypeId} {b : Bool} (hb : isAg P t = some b) (w : World) : (isAgg t).run P w = .ok b w := by
  unfold isAg at hb
  cases hu : P.underlying t with
  | none => rw [hu] at hb; cases hb
  | some d =>
    rw [hu] at hb
    have hb' := Option.some.inj hb
    subst hb'
    simp only [isAgg, Sem.run_bind, run_underlying hu, Result.andThen_ok]
    cases d <;> rfl

theorem run_zeroValue' {t : TypeId} {z : AV} (hz : zeroOf P t = some z) (w : World) : ∃ v, z = ofValue v ∧ (zeroValue t).run P w = .ok v w := by
  unfold zeroOf at hz
  cases hi : P.info? t with
  | none => rw [hi] at hz; cases hz
  | some i =>
    rw [hi] at hz
    cases hv : i.zero with
    | none => simp [hv] at hz
    | some v =>
      simp [hv] at hz
      exact ⟨v, hz.symm, by simp [zeroValue, run_typeInfo' hi, hv]⟩

/-! ### Cells -/
theorem addr_add (b o i : Nat) : (⟨b, o, none⟩ : Addr).add i = ⟨b, o + i, none⟩ := by
  unfold Addr.add; split <;> simp_all

theorem cell_at {b : Nat} {C : Array Value} {e : TypeId} {fr : Nat × Nat} (hb : w.heap[b]? = some (.cells C e fr)) (o : Nat) : w.cell? ⟨b, o, none⟩ = C[o]? := by
  obtain ⟨lo, hi⟩ := fr
  simp [World.cell?, hb]

theorem frozen_at {b : Nat} {C : Array Value} {e : TypeId} {lo hi : Nat} (hb : w.heap[b]? = some (.cells C e (lo, hi))) (o : Nat) (hn : ¬ (lo ≤ o ∧ o < hi)) : w.frozen? ⟨b, o, none⟩ = false := by
  simp only [World.frozen?, hb]
  simpa [Bool.and_eq_false_iff] using fun h => Nat.le_of_not_lt fun h' => hn ⟨h, h'⟩

theorem run_loadCells' {b : Nat} {C : Array Value} {e : TypeId} {fr : Nat × Nat} (hb : w.heap[b]? = some (.cells C e fr)) (o n : Nat) (hn : o + n ≤ C.size) :
    (loadCells ⟨b, o, none⟩ n).run P w = .ok ((C.toList.drop o).take n).toArray w := by
  have hl : ((C.toList.drop o).take n).length = n := by simp; omega
  have := run_loadCells_list (P := P) w ⟨b, o, none⟩ ((C.toList.drop o).take n) fun j v hj => by
    rw [addr_add, cell_at hb]
    rw [List.getElem?_take] at hj
    split at hj
    · rw [List.getElem?_drop] at hj; simpa using hj
    · cases hj
  rwa [hl] at this

/-- Cells that are written, one by one, into a block of the machine's own. -/
theorem run_storeCells' (b o : Nat) (e : TypeId) (lo hi : Nat) : ∀ (vs : List Value) (i : Nat) (C : Array Value) (w : World), w.heap[b]? = some (.cells C e (lo, hi)) → o + i + vs.length ≤ C.size →
    (∀ v ∈ vs, v.oneCell' = true) → (∀ j, o + i ≤ j → j < C.size → ¬ (lo ≤ j ∧ j < hi)) →
    ∃ w', (storeCells ⟨b, o, none⟩ vs i).run P w = .ok () w' ∧ Turned w w' b ∧ w'.drawn = w.drawn ∧ ∃ C' : Array Value, w'.heap[b]? = some (.cells C' e (lo, hi)) ∧ C'.size = C.size ∧
      C'.toList = C.toList.take (o + i) ++ (vs ++ C.toList.drop (o + i + vs.length))
  | [], i, C, w, hb, hl, h1, hf => ⟨w, rfl, ⟨rfl, rfl, rfl, rfl, fun _ _ => rfl⟩, rfl, C, hb, rfl, by simp⟩
  | v :: rest, i, C, w, hb, hl, h1, hf => by
    have hlt : o + i < C.size := by simp at hl; omega
    have hst : (store ((⟨b, o, none⟩ : Addr).add i) v).run P w = .ok () (w.setCell ⟨b, o + i, none⟩ v) := by
      rw [addr_add, run_store P w _ v _ (h1 v (by simp)), cell_at hb, Array.getElem?_eq_getElem hlt]
      simp [frozen_at hb (o + i) (hf (o + i) (Nat.le_refl _) hlt)]
    have hb' : (w.setCell ⟨b, o + i, none⟩ v).heap[b]? = some (.cells (C.setIfInBounds (o + i) v) e (lo, hi)) := by
      simp [World.setCell, Array.getElem?_modify, hb]
    obtain ⟨w', hr, ht, hd, C', hC, hs, hL⟩ := run_storeCells' b o e lo hi rest (i + 1) (C.setIfInBounds (o + i) v) (w.setCell ⟨b, o + i, none⟩ v) hb' (by simp at hl ⊢; omega) (fun x hx => h1 x (by simp [hx])) (fun j hj hj' => hf j (by omega) (by simpa using hj'))
    refine ⟨w', ?_, ⟨ht.os, ht.tape, ht.output, by rw [ht.size]; simp [World.setCell], fun k hk => by rw [ht.other k hk, Below.heap_setCell _ _ _ _ hk]⟩, hd, C', hC, by simpa using hs, ?_⟩
    · simp only [storeCells, Sem.run_bind, hst, Result.andThen_ok, hr]
    · rw [hL]
      have hlt' : o + i < C.toList.length := by simpa using hlt
      simp only [Array.toList_setIfInBounds]
      have e1 : (C.toList.set (o + i) v).take (o + (i + 1)) = C.toList.take (o + i) ++ [v] := by
        rw [show o + (i + 1) = o + i + 1 by omega, List.take_add_one, List.take_set_of_le (by omega), List.getElem?_set_self hlt']
        rfl
      have e2 : (C.toList.set (o + i) v).drop (o + (i + 1) + rest.length) = C.toList.drop (o + i + (v :: rest).length) := by
        rw [List.drop_set_of_lt (by omega)]
        congr 1
        simp; omega
      rw [e1, e2]
      simp

/-- Of a block that the machine knows, the model's cells. -/
theorem Rel.cells (r : Rel B φ h w) {id : Nat} {c : List AV} {own : Bool} {fz : Nat} {ty : Option (TypeId × Bool)} (hg : h.get id = some (.cells c own fz ty)) :
    ∃ (C : Array Value) (e : TypeId) (lo hi : Nat), w.heap[(φ id).b]? = some (.cells C e (lo, hi)) ∧ C.size = (φ id).n ∧ (φ id).o + c.length ≤ C.size ∧
      VRs h.ok φ c ((C.toList.drop (φ id).o).take c.length) ∧ (own = true → ∀ i, (φ id).o + fz ≤ i → i < C.size → ¬ (lo ≤ i ∧ i < hi)) ∧ (∀ t b, ty = some (t, b) → e = t ∧ (b = true → (φ id).o = 0 ∧ (φ id).n = c.length)) := by
  obtain ⟨C, e, lo, hi, h1, h2, h3, h4, h5⟩ := r.obj id _ hg
  refine ⟨C, e, lo, hi, h1, h2, h3, ⟨by simp; omega, fun i x v hx hv => ?_⟩, h5⟩
  obtain ⟨u, hu, hr⟩ := h4 i x hx
  rw [List.getElem?_take] at hv
  split at hv
  · rw [List.getElem?_drop, Array.getElem?_toList, hu] at hv
    cases hv; exact hr
  · cases hv

/-- Part of a value. -/
theorem run_part' {t : TypeId} {cs : List AV} {vs : Array Value} {off : Nat} {x : AV} (hx : apart P t cs off = some x) {N : Nat → Prop} (hv : VRs N φ cs vs.toList) (w : World) :
    ∃ v, (part t vs off).run P w = .ok v w ∧ VR N φ x v := by
  unfold apart at hx
  cases ha : isAg P t with
  | none => simp [ha] at hx
  | some b =>
    cases b with
    | true =>
      cases hs : szOf P t with
      | none => simp [ha, hs] at hx
      | some n =>
        simp only [ha, hs] at hx
        split at hx
        · rename_i hle
          cases hx
          refine ⟨.agg (vs.extract off (off + n)), by simp [part, run_isAgg' ha, run_sizeOf' hs], ?_⟩
          have := VR.aggs ((hv.drop off).take n)
          have e : ((vs.toList.drop off).take n).toArray = vs.extract off (off + n) := by
            apply Array.ext'
            simp [Array.toList_extract, List.extract_eq_take_drop]
          rwa [e] at this
        · cases hx
    | false =>
      simp only [ha] at hx
      obtain ⟨v, hv', hr⟩ := hv.at hx
      refine ⟨v, ?_, hr⟩
      simp only [part, Sem.run_bind, run_isAgg' ha, Result.andThen_ok]
      rw [Array.getElem?_toList] at hv'
      simp [hv']

theorem apart_agg {t : TypeId} {cs : List AV} {off : Nat} {x : AV} (hx : apart P t cs off = some x) : (∃ n, isAg P t = some true ∧ szOf P t = some n ∧ off + n ≤ cs.length ∧ x = .agg ((cs.drop off).take n)) ∨ (isAg P t = some false ∧ cs[off]? = some x) := by
  unfold apart at hx
  cases ha : isAg P t with
  | none => simp [ha] at hx
  | some b =>
    cases b with
    | true =>
      cases hs : szOf P t with
      | none => simp [ha, hs] at hx
      | some n =>
        simp only [ha, hs] at hx
        split at hx
        · rename_i hle; cases hx; exact .inl ⟨n, rfl, rfl, hle, rfl⟩
        · cases hx
    | false => simp only [ha] at hx; exact .inr ⟨rfl, hx⟩

theorem run_loadVar' (r : Rel B φ h w) {t : TypeId} {x y : AV} {v : Value} (hl : aload P t x h = some y) (hx : VR h.ok φ x v) :
    ∃ u, (Instr.loadAt t v).run P w = .ok u w ∧ VR h.ok φ y u := by
  cases hx with
  | ptr id off hid =>
    simp only [aload] at hl
    split at hl
    · rename_i c own fz ty hg
      obtain ⟨C, e, lo, hi, h1, h2, h3, h4, h5, h6⟩ := r.cells hg
      rcases apart_agg hl with ⟨n, ha, hs, hle, rfl⟩ | ⟨ha, hc⟩
      · have hv := (h4.drop off).take n
        have e1 : ((((C.toList.drop (φ id).o).take c.length).drop off).take n) = ((C.toList.drop ((φ id).o + off)).take n) := by
          rw [List.drop_take, List.take_take, List.drop_drop]
          congr 1
          omega
        rw [e1] at hv
        refine ⟨_, ?_, VR.aggs hv⟩
        simp [Instr.loadAt, Instr.sureAddr, loadVar, run_isAgg' ha, run_sizeOf' hs, run_loadCells' h1 ((φ id).o + off) n (by omega)]
      · obtain ⟨u, hu, hr⟩ := h4.at hc
        refine ⟨u, ?_, hr⟩
        have hoff : off < c.length := by
          rcases Nat.lt_or_ge off c.length with h' | h'
          · exact h'
          · rw [List.getElem?_eq_none h'] at hc; cases hc
        rw [List.getElem?_take, if_pos hoff, List.getElem?_drop, Array.getElem?_toList] at hu
        simp [Instr.loadAt, Instr.sureAddr, loadVar, run_isAgg' ha, cell_at h1, hu]
    · cases hl
  | val v =>
    simp only [aload] at hl
    split at hl
    all_goals first | (exfalso; simp_all; done) | skip
    rename_i g off heq
    cases heq
    unfold agload at hl
    split at hl
    rotate_left
    · cases hl
    rename_i g' c hg
    split at hl
    rotate_left
    · cases hl
    rename_i hgg
    subst hgg
    obtain ⟨k0, C, e, lo, hi, h1, h2, h3⟩ := r.obj _ _ hg
    rw [k0] at h1
    have h4 : VRs h.ok φ c ((C.toList.drop 0).take c.length) := ⟨by simp; omega, fun i x v hx hv => by
      obtain ⟨v', hv', hr⟩ := h3 i x hx
      have hi : i < c.length := by
        rcases Nat.lt_or_ge i c.length with h' | h'
        · exact h'
        · rw [List.getElem?_eq_none h'] at hx; cases hx
      rw [List.drop_zero, List.getElem?_take, if_pos hi, Array.getElem?_toList, hv'] at hv
      cases hv; exact hr⟩
    rcases apart_agg hl with ⟨n, ha, hs, hle, rfl⟩ | ⟨ha, hc⟩
    · have hv := (h4.drop off).take n
      have e1 : ((((C.toList.drop 0).take c.length).drop off).take n) = ((C.toList.drop off).take n) := by
        rw [List.drop_zero, List.drop_take, List.take_take]
        congr 1
        omega
      rw [e1] at hv
      refine ⟨_, ?_, VR.aggs hv⟩
      simp [Instr.loadAt, Instr.sureAddr, loadVar, run_isAgg' ha, run_sizeOf' hs, run_loadCells' h1 off n (by omega)]
    · obtain ⟨u, hu, hr⟩ := h4.at hc
      refine ⟨u, ?_, hr⟩
      have hoff : off < c.length := by
        rcases Nat.lt_or_ge off c.length with h' | h'
        · exact h'
        · rw [List.getElem?_eq_none h'] at hc; cases hc
      rw [List.drop_zero, List.getElem?_take, if_pos hoff, Array.getElem?_toList] at hu
      simp [Instr.loadAt, Instr.sureAddr, loadVar, run_isAgg' ha, cell_at h1, hu]
  | _ => simp [aload] at hl

theorem splice_length {c : List AV} {off : Nat} {xs : List AV} (h : off + xs.length ≤ c.length) : (splice c off xs).length = c.length := by
  simp [splice]; omega

/-- A splice, and the model's cells behind it. -/
theorem VRs.splice {N : Nat → Prop} {c xs : List AV} {L us L' : List Value} {o off : Nat} (hc : VRs N φ c ((L.drop o).take c.length)) (hx : VRs N φ xs us) (hle : off + xs.length ≤ c.length) (hL : o + c.length ≤ L.length)
    (hL' : L' = L.take (o + off) ++ (us ++ L.drop (o + off + us.length))) : VRs N φ (Go.Proofs.YtobhmahlenjheaaM.splice c off xs) ((L'.drop o).take c.length) := by
  subst hL'
  have hu := hx.1
  have e : (((L.take (o + off) ++ (us ++ L.drop (o + off + us.length))).drop o).take c.length) = ((L.drop o).take c.length).take off ++ (us ++ ((L.drop o).take c.length).drop (off + us.length)) := by
    have l1 : (L.take (o + off)).length = o + off := by simp; omega
    have l2 : (((L.drop o).take c.length).take off).length = off := by simp; omega
    apply List.ext_getElem?
    intro i
    simp only [List.getElem?_take, List.getElem?_drop, List.getElem?_append, l1, l2]
    by_cases h1 : i < c.length
    · by_cases h2 : i < off
      · simp only [if_pos h1, if_pos h2]
        rw [if_pos (by omega), if_pos (by omega)]
      · by_cases h3 : i < off + us.length
        · simp only [if_pos h1, if_neg h2]
          rw [if_neg (by omega), if_pos (by omega), if_pos (by omega)]
          congr 1; omega
        · simp only [if_pos h1, if_neg h2]
          rw [if_neg (by omega), if_neg (by omega), if_neg (by omega), if_pos (by omega)]
          congr 1; omega
    · simp only [if_neg h1]
      rw [if_neg (by omega), if_neg (by omega), if_neg (by omega)]
  rw [e, Go.Proofs.YtobhmahlenjheaaM.splice]
  refine (hc.take off).append (hx.append ?_)
  rw [hu]
  exact hc.drop _

end Go.Proofs.YtobhmahlenjheaaM
