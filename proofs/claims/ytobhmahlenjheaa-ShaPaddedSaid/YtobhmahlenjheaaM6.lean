/- copy, composites, makes, slices and addresses, held against the model's. -/
import Derived.Test.YtobhmahlenjheaaM5
set_option linter.unusedSimpArgs false
set_option linter.unusedVariables false
namespace Go.Proofs.YtobhmahlenjheaaM
open Go Go.RowKit

variable {P : Program} {B : Nat} {φ : Nat → Loc} {h : AH} {w : World}

theorem run_copy (argTypes : Array TypeId) (ty : TypeId) {dt e : TypeId} {i : TypeInfo} {base : Option Addr} {m cap n : Nat} {x' : Value} {new : Array Value}
    (hdt : argTypes[0]? = some dt) (hu : P.underlying dt = some (.slice e)) (hi : P.info? e = some i) (hn : (Builtin.lenOf x').run P w = .ok n w) (hnew : (Builtin.firstCells i.size (min n m) x').run P w = .ok new w) :
    (Builtin.copy_ argTypes ty #[.slice base m cap, x']).run P w = ((match base with | some a => storeCells a new.toList | none => pure ()).run P w).andThen fun _ w => .ok (.int .i64 (min n m : Nat)) w := by
  have hsizeOf : ∀ w : World, (sizeOf e).run P w = .ok i.size w := fun w => by simp [sizeOf, run_typeInfo' hi]
  have hmin : Nat.min n m = min n m := rfl
  unfold Builtin.copy_
  cases base <;> simp [hdt, run_underlying hu, hn, hsizeOf, hnew, hmin, goInt]

theorem copy_sound (r : Rel B φ h w) {argTypes : Array TypeId} {ty : TypeId} {args : List AV} {args' : List Value} {v : AV} {h' : AH} (ha : acopy P argTypes args h = some (v, h'))
    (hargs : VRs h.ok φ args args') : ∃ v' w', (Builtin.copy_ argTypes ty args'.toArray).run P w = .ok v' w' ∧ Res B φ h w v h' v' w' := by
  unfold acopy at ha
  split at ha
  rotate_left
  · cases ha
  rename_i dt d x hdt
  obtain ⟨d', x', rfl, hd, hx⟩ := two_args hargs
  split at ha
  rotate_left
  · cases ha
  rename_i e he
  split at ha
  rotate_left
  · cases ha
  rename_i i m n hi hm hn
  split at ha
  · cases ha
  rename_i xs hxs
  have hund := sliceElem_some he
  have hnl := alen_sound (P := P) hn hx w
  obtain ⟨new, hnew, hnewV, hnewL⟩ := acells_sound (P := P) r hxs hx
  split at ha
  · rename_i hnil
    subst hnil
    have hnewE : new = #[] := by
      apply Array.eq_empty_of_size_eq_zero
      have := hnewV.1; simp at this; simp [← this]
    subst hnewE
    split at ha
    · cases ha
      cases hd with
      | val v0 =>
        simp only [alen] at hm
        cases hm
        rw [run_copy (P := P) argTypes ty hdt hund hi hnl hnew]
        refine ⟨_, _, rfl, Res.pure r ?_⟩
        simp; exact .int _ _
    · cases ha
      cases hd with
      | sl id off l sz a cap hid hl' hacap =>
        simp only [alen] at hm
        cases hm
        rw [run_copy (P := P) argTypes ty hdt hund hi hnl hnew]
        exact ⟨_, _, rfl, Res.pure r (.int _ _)⟩
    · cases ha
  · rename_i hne
    split at ha
    · rename_i id off l sz
      split at ha
      · rename_i c fz ty0 hg
        split at ha
        · rename_i hcond
          obtain ⟨rfl, hoff, hfz, hone⟩ := hcond
          cases ha
          cases hd with
          | sl id off l sz a cap hid hl' hacap =>
            simp only [alen] at hm
            cases hm
            rw [run_copy (P := P) argTypes ty hdt hund hi hnl hnew]
            rcases hacap with hc0 | ⟨ha', hcapn⟩
            · exfalso
              apply hne
              have : m = 0 := by omega
              subst this
              simp at hnewL
              exact hnewL
            · subst ha'
              obtain ⟨w', hrun, r', s'⟩ := r.write (P := P) hg hnewV hone hfz hoff
              refine ⟨.int .i64 (min n m : Nat), w', ?_, φ, .int _ _, r', s'⟩
              simp [hrun]
        · cases ha
      · cases ha
    · cases ha

/-! ### Composites -/
theorem fold_sets (off : Nat) : ∀ (l : List Value) (k : Nat) (cs : Array Value), off + k + l.length ≤ cs.size →
    ((l.zipIdx k).foldl (fun (cs : Array Value) p => cs.setIfInBounds (off + p.2) p.1) cs).toList = cs.toList.take (off + k) ++ (l ++ cs.toList.drop (off + k + l.length))
  | [], k, cs, h => by simp
  | v :: l, k, cs, h => by
    simp only [List.zipIdx_cons, List.foldl_cons]
    rw [fold_sets off l (k + 1) _ (by simp at h ⊢; omega)]
    have hlt : off + k < cs.toList.length := by simp at h ⊢; omega
    simp only [Array.toList_setIfInBounds]
    have e1 : (cs.toList.set (off + k) v).take (off + (k + 1)) = cs.toList.take (off + k) ++ [v] := by
      rw [show off + (k + 1) = off + k + 1 by omega, List.take_add_one, List.take_set_of_le (by omega), List.getElem?_set_self hlt]
      rfl
    have e2 : (cs.toList.set (off + k) v).drop (off + (k + 1) + l.length) = cs.toList.drop (off + k + (v :: l).length) := by
      rw [List.drop_set_of_lt (by omega)]
      congr 1
      simp; omega
    rw [e1, e2]
    simp

theorem fill_sound {N : Nat → Prop} {place : Nat → Option (Nat × Nat)} : ∀ (parts : List (Nat × AV)) (parts' : List (Nat × Value)) (ps : List (Nat × Nat × List AV)) (zs out : List AV) (Z : Array Value),
    parts.length = parts'.length → (∀ (i : Nat) (p : Nat × AV) (q : Nat × Value), parts[i]? = some p → parts'[i]? = some q → p.1 = q.1 ∧ VR N φ p.2 q.2) →
    partsAt place parts = some ps → afill zs ps = some out → VRs N φ zs Z.toList → ∃ Z', Instr.fill place Z parts' = some Z' ∧ VRs N φ out Z'.toList
  | [], [], ps, zs, out, Z, _, _, hp, hf, hz => by
    simp only [partsAt] at hp; cases hp
    simp only [afill] at hf; cases hf
    exact ⟨Z, rfl, hz⟩
  | (i, x) :: parts, (j, v) :: parts', ps, zs, out, Z, hl, hv, hp, hf, hz => by
    obtain ⟨hij, hxv⟩ := hv 0 (i, x) (j, v) rfl rfl
    simp only at hij hxv
    subst hij
    simp only [partsAt] at hp
    split at hp
    · rename_i off size xs r hpl hxs hr
      cases hp
      simp only [afill] at hf
      split at hf
      · rename_i hcond
        have hcs := hxv.cells hxs
        have hl1 := hcs.1
        have hl2 := hz.1
        simp at hl1 hl2
        have hfold := fold_sets off v.cells.toList 0 Z (by simp; omega)
        have hZ1 : VRs N φ (splice zs off xs) ((v.cells.zipIdx.foldl (fun cs (c, j) => cs.setIfInBounds (off + j) c) Z).toList) := by
          rw [← Array.foldl_toList, Array.toList_zipIdx, hfold]
          have := VRs.splice (N := N) (φ := φ) (c := zs) (xs := xs) (L := Z.toList) (us := v.cells.toList) (o := 0) (off := off) (L' := Z.toList.take (0 + off) ++ (v.cells.toList ++ Z.toList.drop (0 + off + v.cells.toList.length)))
            (by rw [List.drop_zero, List.take_of_length_le (by simp; omega)]; exact hz) hcs (by omega) (by simp; omega) rfl
          rw [List.drop_zero, List.take_of_length_le (by simp; omega)] at this
          simpa using this
        obtain ⟨Z', hZ', hZv⟩ := fill_sound parts parts' r (splice zs off xs) out _ (by simpa using hl) (fun k p q hp hq => hv (k + 1) p q (by simpa using hp) (by simpa using hq)) hr hf hZ1
        refine ⟨Z', ?_, hZv⟩
        simp only [Instr.fill, hpl]
        rw [if_neg]
        · exact hZ'
        · simp; omega
      · cases hf
    · cases hp
  | [], _ :: _, _, _, _, _, hl, _, _, _, _ => by simp at hl
  | _ :: _, [], _, _, _, _, hl, _, _, _, _ => by simp at hl

theorem afill_length : ∀ {ps : List (Nat × Nat × List AV)} {zs out : List AV}, afill zs ps = some out → out.length = zs.length
  | [], zs, out, h => by simp only [afill] at h; cases h; rfl
  | (off, size, xs) :: ps, zs, out, h => by
    simp only [afill] at h
    split at h
    · rename_i hc
      rw [afill_length h, splice_length (by omega)]
    · cases h

theorem placesOf_sound : ∀ (fs : List Field) (pl : List (Nat × Nat)), placesOf P fs = some pl → ∀ w : World,
    (fs.mapM fun f => do pure (f.offset, ← sizeOf f.type) : Sem (List (Nat × Nat))).run P w = .ok pl w
  | [], pl, h, w => by simp only [placesOf] at h; cases h; rfl
  | f :: fs, pl, h, w => by
    simp only [placesOf] at h
    split at h
    · rename_i s r hs hr
      cases h
      have ih := placesOf_sound fs r hr w
      simp only [List.mapM_cons, Sem.run_bind, run_sizeOf' hs, Result.andThen_ok, Sem.run_pure]
      rw [ih]
      rfl
    · cases h

theorem mapM_places (fs : Array Field) (pl : List (Nat × Nat)) (h : placesOf P fs.toList = some pl) (w : World) :
    (fs.mapM fun f => do pure (f.offset, ← sizeOf f.type) : Sem (Array (Nat × Nat))).run P w = .ok pl.toArray w := by
  have := placesOf_sound fs.toList pl h w
  rw [Array.mapM_eq_mapM_toList]
  simp only [Sem.run_map, this, Result.andThen_ok]

/-- The parts that the model is handed. -/
def partsR (N : Nat → Prop) (φ : Nat → Loc) (parts : List (Nat × AV)) (parts' : List (Nat × Value)) : Prop :=
  parts.length = parts'.length ∧ ∀ (i : Nat) (p : Nat × AV) (q : Nat × Value), parts[i]? = some p → parts'[i]? = some q → p.1 = q.1 ∧ VR N φ p.2 q.2

theorem build_sound {t : TypeId} {parts : List (Nat × AV)} {parts' : List (Nat × Value)} {v : AV} {N : Nat → Prop} (hb : abuild P t parts = some v) (hp : partsR N φ parts parts') (w : World) :
    ∃ v', (Instr.build t parts'.toArray).run P w = .ok v' w ∧ VR N φ v v' := by
  unfold abuild at hb
  split at hb
  rotate_left
  · cases hb
  rename_i z hz
  obtain ⟨Z, rfl, hZ⟩ := run_zeroValue' hz w
  split at hb
  · rename_i zero fs hzero hu
    split at hb
    · rename_i pl hpl
      split at hb
      · rename_i ps hps
        cases hf : afill zero ps with
        | none => simp [hf] at hb
        | some out =>
          simp [hf] at hb
          subst hb
          obtain ⟨Z', hZ', hv⟩ := fill_sound parts parts' ps zero out Z.cells hp.1 hp.2 hps hf ((VR.ofValue N φ Z).cells hzero)
          refine ⟨.agg Z', ?_, .agg _ _ (by have := hv.1; simpa using this) fun i x u hx hu' => hv.2 i x u hx (by simpa using hu')⟩
          have hm := mapM_places fs pl hpl w
          have e : (fun i : Nat => pl.toArray[i]?) = fun i : Nat => pl[i]? := by funext i; simp
          unfold Instr.build
          simp only [Sem.run_bind, hZ, Result.andThen_ok, run_underlying hu, hm]
          rw [e, hZ']
          rfl
      · cases hb
    · cases hb
  · rename_i zero n e hzero hu
    split at hb
    · rename_i size hsz
      split at hb
      · rename_i ps hps
        cases hf : afill zero ps with
        | none => simp [hf] at hb
        | some out =>
          simp [hf] at hb
          subst hb
          obtain ⟨Z', hZ', hv⟩ := fill_sound parts parts' ps zero out Z.cells hp.1 hp.2 hps hf ((VR.ofValue N φ Z).cells hzero)
          refine ⟨.agg Z', ?_, .agg _ _ (by have := hv.1; simpa using this) fun i x u hx hu' => hv.2 i x u hx (by simpa using hu')⟩
          unfold Instr.build
          simp only [Sem.run_bind, hZ, Result.andThen_ok, run_underlying hu, run_sizeOf' hsz]
          rw [hZ']
          rfl
      · cases hb
    · cases hb
  · cases hb

theorem buildSlice_sound (r : Rel B φ h w) {t : TypeId} {len : Nat} {parts : List (Nat × AV)} {parts' : List (Nat × Value)} {v : AV} {h' : AH} (hb : abuildSlice P t len parts h = some (v, h')) (hp : partsR h.ok φ parts parts') :
    ∃ v' w', (Instr.buildSlice t len parts'.toArray).run P w = .ok v' w' ∧ Res B φ h w v h' v' w' := by
  unfold abuildSlice at hb
  split at hb
  rotate_left
  · cases hb
  rename_i e he
  split at hb
  rotate_left
  · cases hb
  rename_i size hsz
  split at hb
  · cases hb
  rename_i hcond
  split at hb
  rotate_left
  · cases hb
  rename_i z hz
  split at hb
  rotate_left
  · cases hb
  rename_i zs ps hzs hps
  split at hb
  · cases hb
  rename_i hlen
  split at hb
  rotate_left
  · cases hb
  rename_i cells hf
  cases hb
  have hund := sliceElem_some he
  have hpos : 0 < size := by omega
  have hlim : ¬ len * size > 2 ^ 24 := by omega
  obtain ⟨Z, hZrun, hZV⟩ : ∃ Z : Array Value, ((if len * size = 0 then pure #[] else do pure (← zeroValue e).cells : Sem (Array Value)).run P w = .ok Z w) ∧
      VRs h.ok φ (zrow zs len) (((Array.range (len * size)).map (Z[· % Z.size]!)).toList) := by
    by_cases h0 : len = 0
    · subst h0
      exact ⟨#[], by simp, by simpa [zrow] using VRs.nil _ _⟩
    · rw [if_neg h0] at hz
      obtain ⟨Z, rfl, hZ⟩ := run_zeroValue' hz w
      have hzl : zs.length = size := by
        apply Classical.byContradiction
        intro hne
        exact hlen ⟨h0, hne⟩
      have hne : len * size ≠ 0 := Nat.mul_ne_zero h0 (by omega)
      refine ⟨Z.cells, by rw [if_neg hne]; simp [hZ], ?_⟩
      have hv := (VR.ofValue h.ok φ Z).cells hzs
      have := zrow_VRs hv len (len * size) (by rw [hzl]; exact Nat.le_refl _) (.inl (by rw [hzl]; exact hne))
      rw [List.take_of_length_le (by simp [zrow_length, hzl])] at this
      exact this
  obtain ⟨Z', hZ', hv⟩ := fill_sound parts parts' ps (zrow zs len) cells _ hp.1 hp.2 hps hf hZV
  have hl := hv.1
  simp at hl
  have hsize : Z'.size = len * size := by
    have hfl := afill_length hf
    rw [zrow_length] at hfl
    by_cases h0 : len = 0
    · subst h0; omega
    · have hz2 : zs.length = size := by
        apply Classical.byContradiction
        intro hne
        exact hlen ⟨h0, hne⟩
      rw [hz2] at hfl
      omega
  obtain ⟨r', s'⟩ := r.fresh cells Z' e 0 0 (some (e, false)) (fun t b ht => by cases ht; exact ⟨rfl, fun hb => rfl⟩) (by rw [List.take_of_length_le (by simp; omega)]; exact hv) (by omega)
  refine ⟨.slice (some ⟨w.heap.size, 0, none⟩) len len, w.alloc (.cells Z' e), ?_, _, ?_, r', s'⟩
  · unfold Instr.buildSlice
    simp only [Sem.run_bind, run_underlying hund, Result.andThen_ok, run_sizeOf' hsz, if_neg hlim]
    by_cases h0 : len * size = 0
    · rw [if_pos h0] at hZrun
      have hZ0 : Z = #[] := by cases hZrun; rfl
      subst hZ0
      rw [if_pos h0]
      simp only [Sem.run_bind, Sem.run_pure, Result.andThen_ok, hZ', run_newRow]
    · rw [if_neg h0] at hZrun
      rw [if_neg h0]
      simp only [Sem.run_bind] at hZrun ⊢
      cases hz0 : (zeroValue e).run P w with
      | ok zv w1 =>
        rw [hz0] at hZrun
        cases hZrun
        simp only [Sem.run_bind, Sem.run_pure, Result.andThen_ok, hZ', run_newRow]
      | halt x w1 => rw [hz0] at hZrun; cases hZrun
  · exact .sl h.n 0 len size _ len (AH.ok_new _ _) (Nat.le_refl _) (.inr ⟨by simp [ext1_new], by simp [ext1_new, hsize]⟩)

end Go.Proofs.YtobhmahlenjheaaM
