/- Each operation of the machine, held against the model's: stores, new blocks, slices, aggregates. -/
import Derived.Test.YtobhmahlenjheaaM2
set_option linter.unusedSimpArgs false
set_option linter.unusedVariables false
namespace Go.Proofs.YtobhmahlenjheaaM
open Go Go.RowKit

variable {P : Program} {B : Nat} {φ : Nat → Loc} {h : AH} {w : World}

theorem Res.undef {φ' : Nat → Loc} {h' : AH} {w' : World} (r : Rel B φ' h' w') (s : Step φ h w φ' h' w') : Res B φ h w .undef h' Go.undef w' := ⟨φ', VR.undef _ _, r, s⟩

theorem VRs.ones {N : Nat → Prop} {xs : List AV} {vs : List Value} (hx : VRs N φ xs vs) (ho : xs.all AV.one = true) : ∀ v ∈ vs, v.oneCell' = true := by
  intro v hv
  obtain ⟨i, hi⟩ := List.mem_iff_getElem?.1 hv
  have hlt : i < vs.length := by
    rcases Nat.lt_or_ge i vs.length with h' | h'
    · exact h'
    · rw [List.getElem?_eq_none h'] at hi; cases hi
  have hx' : xs[i]? = some (xs[i]'(hx.1 ▸ hlt)) := List.getElem?_eq_getElem _
  exact (hx.2 i _ v hx' hi).one (List.all_eq_true.1 ho _ (List.getElem_mem _))

/-- Cells written into a block of the machine's own. -/
theorem Rel.write (r : Rel B φ h w) {id : Nat} {c : List AV} {fz off : Nat} {ty : Option (TypeId × Bool)} {xs : List AV} {vs : List Value} (hg : h.get id = some (.cells c true fz ty)) (hx : VRs h.ok φ xs vs) (ho : xs.all AV.one = true)
    (hfz : fz ≤ off) (hle : off + xs.length ≤ c.length) :
    ∃ w', (storeCells ⟨(φ id).b, (φ id).o + off, none⟩ vs).run P w = .ok () w' ∧ Rel B φ (h.set id (.cells (splice c off xs) true fz ty)) w' ∧ Step φ h w φ (h.set id (.cells (splice c off xs) true fz ty)) w' := by
  obtain ⟨C, e, lo, hi, h1, h2, h3, h4, h5, h6⟩ := r.cells hg
  have hl := hx.1
  obtain ⟨w', hr, ht, _, C', hC, hs, hL⟩ := run_storeCells' (P := P) (φ id).b ((φ id).o + off) e lo hi vs 0 C w h1 (by omega) (hx.ones ho) (fun j hj hj' => h5 rfl j (by omega) hj')
  obtain ⟨r', s'⟩ := r.update hg rfl ht (.cells (splice c off xs) true fz ty) (by
    rw [hC]
    refine ⟨C', e, lo, hi, rfl, hs.trans h2, by rw [splice_length hle, hs]; exact h3, fun i x hi' => ?_, fun _ i hi' hi'' => h5 rfl i hi' (by rw [← hs]; exact hi''), fun t b ht => by rw [splice_length hle]; exact h6 t b ht⟩
    have hsp := VRs.splice h4 hx hle (by simpa using h3) (L' := C'.toList) (by rw [hL]; simp)
    rw [← splice_length hle] at hsp
    obtain ⟨v, hv, hvr⟩ := hsp.at hi'
    refine ⟨v, ?_, hvr⟩
    rw [List.getElem?_take] at hv
    split at hv
    · rw [List.getElem?_drop, Array.getElem?_toList] at hv; exact hv
    · cases hv)
  exact ⟨w', hr, r', s'⟩

theorem store_sound (r : Rel B φ h w) {t : TypeId} {x y : AV} {x' y' : Value} {h' : AH} (hs : astore P t x y h = some h') (hx : VR h.ok φ x x') (hy : VR h.ok φ y y') :
    ∃ w', (Instr.storeAt t x' y').run P w = .ok () w' ∧ Res B φ h w .undef h' Go.undef w' := by
  cases hx with
  | ptr id off hid =>
    simp only [astore] at hs
    split at hs
    · rename_i c fz ty hg
      split at hs
      · rename_i xs n hc hn
        split at hs
        · rename_i hcond
          obtain ⟨e1, e2, e3, e4⟩ := hcond
          cases hs
          have hcs := hy.cells hc
          obtain ⟨w', hr, r', s'⟩ := r.write (P := P) hg hcs e4 e2 (by omega)
          refine ⟨w', ?_, Res.undef r' s'⟩
          have hsz : y'.cells.size = n := by have := hcs.1; simp at this; omega
          simp [Instr.storeAt, Instr.sureAddr, storeVar, run_sizeOf' hn, hsz, hr]
        · cases hs
      · cases hs
    · cases hs
  | _ => simp [astore] at hs

/-- A new block of cells. -/
theorem Rel.fresh (r : Rel B φ h w) (cs : List AV) (vs : Array Value) (e : TypeId) (fz more : Nat) (ty : Option (TypeId × Bool)) (hty : ∀ t b, ty = some (t, b) → e = t ∧ (b = true → more = 0)) (hv : VRs h.ok φ cs (vs.toList.take cs.length)) (hm : cs.length + more = vs.size) :
    Rel B (ext1 φ h.n ⟨w.heap.size, 0, vs.size⟩) (h.push (.cells cs true fz ty)) (w.alloc (.cells vs e)) ∧
    Step φ h w (ext1 φ h.n ⟨w.heap.size, 0, vs.size⟩) (h.push (.cells cs true fz ty)) (w.alloc (.cells vs e)) := by
  refine r.push (.cells cs true fz ty) (.cells vs e) ⟨w.heap.size, 0, vs.size⟩ rfl ⟨vs, e, 0, 0, rfl, rfl, by show 0 + cs.length ≤ _; omega, fun i x hx => ?_, fun _ i _ _ => by omega, fun t b ht => ⟨(hty t b ht).1, fun hb => ⟨rfl, by have := (hty t b ht).2 hb; show vs.size = cs.length; omega⟩⟩⟩
  obtain ⟨v, hv', hr⟩ := hv.at hx
  refine ⟨v, ?_, hr.mono (fun _ hk => AH.ok_push hk) fun id hid => ext1_old (AH.ok_lt hid)⟩
  rw [List.getElem?_take] at hv'
  split at hv'
  · rw [Array.getElem?_toList] at hv'; simpa using hv'
  · cases hv'

theorem run_newRow (e : TypeId) (vs : Array Value) (w : World) : (newRow e vs).run P w = .ok ⟨w.heap.size, 0, none⟩ (w.alloc (.cells vs e)) := by
  simp [newRow]

theorem Res.new (r : Rel B φ h w) (cs : List AV) (vs : Array Value) (e : TypeId) (hv : VRs h.ok φ cs vs.toList) :
    Res B φ h w (anew e cs h).1 (anew e cs h).2 (.pointer (some ⟨w.heap.size, 0, none⟩)) (w.alloc (.cells vs e)) := by
  have hl := hv.1
  simp at hl
  obtain ⟨r', s'⟩ := r.fresh cs vs e 0 0 (some (e, true)) (fun t b ht => by cases ht; exact ⟨rfl, fun _ => rfl⟩) (by rw [List.take_of_length_le (by simp; omega)]; exact hv) (by omega)
  refine ⟨_, ?_, r', s'⟩
  have := VR.ptr (N := (h.push (.cells cs true 0 (some (e, true)))).ok) (φ := ext1 φ h.n ⟨w.heap.size, 0, vs.size⟩) h.n 0 (AH.ok_new _ _)
  rw [ext1_new] at this
  exact this

theorem box_sound (r : Rel B φ h w) {e : TypeId} {x : AV} {v : Value} {cs : List AV} (hc : x.cells = some cs) (hx : VR h.ok φ x v) :
    ∃ v' w', (Instr.box e v).run P w = .ok v' w' ∧ Res B φ h w (anew e cs h).1 (anew e cs h).2 v' w' :=
  ⟨_, _, by simp [Instr.box, newVar, run_newRow], Res.new r cs v.cells e (hx.cells hc)⟩

theorem alloc_sound (r : Rel B φ h w) {e : TypeId} {z : AV} {cs : List AV} (hz : zeroOf P e = some z) (hc : z.cells = some cs) :
    ∃ v' w', (Instr.alloc e true (.tuple #[])).run P w = .ok v' w' ∧ Res B φ h w (anew e cs h).1 (anew e cs h).2 v' w' := by
  obtain ⟨v, rfl, hr⟩ := run_zeroValue' hz w
  exact ⟨_, _, by simp [Instr.alloc, hr, newVar, run_newRow], Res.new r cs v.cells e ((VR.ofValue _ _ v).cells hc)⟩

/-! ### Elements of slices -/
theorem alen_sound {N : Nat → Prop} {x : AV} {v : Value} {n : Nat} (hl : alen x = some n) (hx : VR N φ x v) (w : World) : (Builtin.lenOf v).run P w = .ok n w := by
  cases hx with
  | str l => simp only [alen] at hl; cases hl; rfl
  | val v =>
    unfold alen at hl
    split at hl
    · rename_i cap he; cases he; cases hl; rfl
    · rename_i he; cases he
    · rename_i he; cases he
    · cases hl
  | sl id off len esz a cap h' hl' ha => simp only [alen] at hl; cases hl; rfl
  | _ => simp [alen] at hl

theorem acells_sound (r : Rel B φ h w) {x : AV} {v : Value} {sz n : Nat} {cs : List AV} (hc : acells x sz n h = some cs) (hx : VR h.ok φ x v) :
    ∃ vs, (Builtin.firstCells sz n v).run P w = .ok vs w ∧ VRs h.ok φ cs vs.toList ∧ cs.length = n * sz := by
  cases hx with
  | str l =>
    simp only [acells] at hc
    split at hc
    · rename_i hcond
      cases hc
      refine ⟨_, rfl, ?_, by simp [hcond.2]; omega⟩
      have := VRs.map (N := h.ok) (φ := φ) (fun b : UInt8 => AV.int .u8 b.toNat) (fun b : UInt8 => Value.int .u8 b.toNat) (fun b => .int _ _) (l.take n)
      rw [List.map_take] at this
      simpa [ByteArray.data_extract, Array.toList_extract, List.extract_eq_take_drop, List.map_take] using this
    · cases hc
  | val v =>
    unfold acells at hc
    split at hc
    · rename_i he
      cases he
      split at hc
      · rename_i hn; subst hn; cases hc; exact ⟨#[], rfl, VRs.nil _ _, by simp⟩
      · cases hc
    · rename_i he; cases he
    · rename_i he; cases he
    · cases hc
  | sl id off len esz a cap hid hl' ha =>
    simp only [acells] at hc
    split at hc
    · rename_i hcond
      split at hc
      · rename_i hn0
        subst hn0
        cases hc
        exact ⟨#[], by simp [Builtin.firstCells, loadCells, loadCellsFrom], VRs.nil _ _, by simp⟩
      split at hc
      · rename_i c own fz ty hg
        split at hc
        · rename_i hle
          cases hc
          obtain ⟨C, e, lo, hi, h1, h2, h3, h4, h5, h6⟩ := r.cells hg
          have hv := (h4.drop off).take (n * sz)
          by_cases hn : n * sz = 0
          · refine ⟨#[], ?_, by rw [hn]; exact VRs.nil _ _, by simp [hn]⟩
            simp [Builtin.firstCells, hn, loadCells, loadCellsFrom]
          · rcases ha with ha | ⟨ha, hn'⟩
            · have : n = 0 := by omega
              subst this; simp at hn
            · refine ⟨((C.toList.drop ((φ id).o + off)).take (n * sz)).toArray, ?_, ?_, by simp; omega⟩
              · subst ha
                simp only [Builtin.firstCells]
                exact run_loadCells' h1 _ _ (by omega)
              · have e1 : ((((C.toList.drop (φ id).o).take c.length).drop off).take (n * sz)) = ((C.toList.drop ((φ id).o + off)).take (n * sz)) := by
                  rw [List.drop_take, List.take_take, List.drop_drop]
                  congr 1
                  omega
                rw [e1] at hv
                simpa using hv
        · cases hc
      · cases hc
    · cases hc
  | _ => simp [acells] at hc

/-! ### Zero cells -/
theorem zrow_length (zs : List AV) : ∀ n, (zrow zs n).length = n * zs.length
  | 0 => by simp [zrow]
  | n + 1 => by simp [zrow, zrow_length zs n, Nat.succ_mul]; omega

theorem zrow_get (zs : List AV) : ∀ (n i : Nat), i < n * zs.length → (zrow zs n)[i]? = zs[i % zs.length]?
  | 0, i, h => by simp at h
  | n + 1, i, h => by
    simp only [zrow]
    by_cases hi : i < zs.length
    · rw [List.getElem?_append_left hi, Nat.mod_eq_of_lt hi]
    · have hi' : zs.length ≤ i := by omega
      rw [List.getElem?_append_right hi', zrow_get zs n (i - zs.length) (by rw [Nat.succ_mul] at h; omega), Nat.mod_eq_sub_mod hi']

/-- The model's cycled zero cells: at least as many as asked. -/
theorem zrow_VRs {N : Nat → Prop} {zs : List AV} {vs : Array Value} (hz : VRs N φ zs vs.toList) (n m : Nat) (hm : n * zs.length ≤ m) (hn : n * zs.length ≠ 0 ∨ m = 0 ∨ zs.length ≠ 0) :
    VRs N φ (zrow zs n) (((Array.range m).map (vs[· % vs.size]!)).toList.take (zrow zs n).length) := by
  have hl := hz.1
  simp at hl
  refine ⟨by simp [zrow_length]; omega, fun i x v hx hv => ?_⟩
  have hi : i < (zrow zs n).length := by
    rcases Nat.lt_or_ge i (zrow zs n).length with h' | h'
    · exact h'
    · rw [List.getElem?_eq_none h'] at hx; cases hx
  rw [List.getElem?_take, if_pos hi] at hv
  rw [zrow_length] at hi
  rw [zrow_get zs n i hi] at hx
  have him : i < m := by omega
  have hv' : v = vs[i % vs.size]! := by
    rw [Array.getElem?_toList, Array.getElem?_map, Array.getElem?_range] at hv
    simp [him] at hv
    exact hv.symm
  obtain ⟨u, hu, hr⟩ := hz.at hx
  rw [Array.getElem?_toList, hl] at hu
  rw [hv', getElem!_def, hu]
  exact hr

end Go.Proofs.YtobhmahlenjheaaM
