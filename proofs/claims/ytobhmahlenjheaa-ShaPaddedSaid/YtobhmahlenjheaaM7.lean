/- makes, slice expressions, addresses and indexes, held against the model's. -/
import Derived.Test.YtobhmahlenjheaaM6
import Derived.Laws.BitsLemmas
set_option linter.unusedSimpArgs false
set_option linter.unusedVariables false
namespace Go.Proofs.YtobhmahlenjheaaM
open Go Go.RowKit

variable {P : Program} {B : Nat} {φ : Nat → Loc} {h : AH} {w : World}

theorem wrap_small (n : Int) (h0 : 0 ≤ n) (h1 : n ≤ 1099511627776) : IntKind.i64.wrap n = n := by
  rw [IntKind.wrap_i64]
  omega

theorem makeSlice_sound (r : Rel B φ h w) {t : TypeId} {l c v : AV} {l' c' : Value} {h' : AH} (hm : amakeSlice P t l c h = some (v, h')) (hl : VR h.ok φ l l') (hc : VR h.ok φ c c') :
    ∃ v' w', (Instr.makeSlice t l' c').run P w = .ok v' w' ∧ Res B φ h w v h' v' w' := by
  unfold amakeSlice at hm
  split at hm
  rotate_left
  · cases hm
  rename_i e k1 len k2 cap he
  cases hl
  cases hc
  split at hm
  rotate_left
  · cases hm
  rename_i i z hi hz
  split at hm
  rotate_left
  · cases hm
  rename_i zs hzs
  split at hm
  rotate_left
  · cases hm
  rename_i hcond
  obtain ⟨h0, hlc, hcap, hzl, hpos⟩ := hcond
  cases hm
  have hund := sliceElem_some he
  obtain ⟨Z, rfl, hZ⟩ := run_zeroValue' hz w
  have hv := (VR.ofValue h.ok φ Z).cells hzs
  obtain ⟨m, rfl⟩ := Int.eq_ofNat_of_zero_le h0
  obtain ⟨n, rfl⟩ := Int.eq_ofNat_of_zero_le (Int.le_trans h0 hlc)
  have hcapn : n * (i.bytes + 1) ≤ sizeCap := by
    have : ((n * (i.bytes + 1) : Nat) : Int) ≤ sizeCap := by push_cast; exact hcap
    exact Int.ofNat_le.1 this
  have hn1 : n ≤ 1099511627776 := by
    have : n * 1 ≤ n * (i.bytes + 1) := Nat.mul_le_mul_left _ (by omega)
    unfold sizeCap at hcapn; omega
  have hbn : ¬ ((i.bytes : Int) * n > 2 ^ 48) := by
    have : n * i.bytes ≤ n * (i.bytes + 1) := Nat.mul_le_mul_left _ (by omega)
    have h3 : ((i.bytes : Int) * n) = ((n * i.bytes : Nat) : Int) := by push_cast; exact Int.mul_comm _ _
    rw [h3]
    unfold sizeCap at hcapn
    omega
  have hmn : m ≤ n := by omega
  have hw1 : IntKind.i64.wrap (m : Int) = m := wrap_small _ (by omega) (by omega)
  have hw2 : IntKind.i64.wrap (n : Int) = n := wrap_small _ (by omega) (by omega)
  have hsizeOf : ∀ w : World, (sizeOf e).run P w = .ok i.size w := fun w => by simp [sizeOf, run_typeInfo' hi]
  obtain ⟨Zr, hZr, hZV, hZs⟩ : ∃ Zr : Array Value, ((if n * i.size = 0 then pure #[] else do pure (← zeroValue e).cells : Sem (Array Value)).run P w = .ok Zr w) ∧
      VRs h.ok φ (zrow zs m) (((Array.range (n * i.size)).map (Zr[· % Zr.size]!)).toList.take (zrow zs m).length) ∧ True := by
    by_cases hz0 : n * i.size = 0
    · refine ⟨#[], by simp [hz0], ?_, trivial⟩
      have hn0 : n = 0 := by rcases Nat.mul_eq_zero.1 hz0 with h | h <;> omega
      have hm0 : m = 0 := by omega
      subst hm0
      simpa [zrow] using VRs.nil _ _
    · refine ⟨Z.cells, by rw [if_neg hz0]; simp [hZ], ?_, trivial⟩
      exact zrow_VRs hv m (n * i.size) (by rw [hzl]; exact Nat.mul_le_mul_right _ hmn) (.inr (.inr (by omega)))
  generalize hrow : (Array.range (n * i.size)).map (Zr[· % Zr.size]!) = row at hZV
  have hrows : row.size = n * i.size := by rw [← hrow]; simp
  have hmul : m * i.size ≤ n * i.size := Nat.mul_le_mul_right _ hmn
  obtain ⟨r', s'⟩ := r.fresh (zrow zs m) row e 0 (n * i.size - m * i.size) (some (e, false)) (fun t b ht => by cases ht; exact ⟨rfl, fun hb => by cases hb⟩) hZV (by rw [zrow_length, hzl, hrows]; omega)
  refine ⟨.slice (some ⟨w.heap.size, 0, none⟩) m n, w.alloc (.cells row e), ?_, _, ?_, r', s'⟩
  · unfold Instr.makeSlice
    have hb1 : ¬ (n : Int) < 0 := by omega
    have hb2 : ¬ (m : Int) < 0 := by omega
    have hb3 : ¬ (m : Int) > n := by omega
    simp only [Sem.run_bind, run_underlying hund, Result.andThen_ok, asInt, asIntOf, Sem.run_pure, run_typeInfo' hi, hw1, hw2]
    simp only [decide_eq_false hb1, decide_eq_false hb2, decide_eq_false hb3, decide_eq_false hbn, Bool.or_false, Bool.false_eq_true, if_false, Sem.run_bind, Sem.run_pure, Result.andThen_ok, run_askRoom, hsizeOf, Int.toNat_natCast]
    by_cases hz0 : n * i.size = 0
    · rw [if_pos hz0] at hZr
      have hZ0 : Zr = #[] := by cases hZr; rfl
      subst hZ0
      rw [if_pos hz0]
      simp only [Sem.run_bind, Sem.run_pure, Result.andThen_ok, hrow, run_newRow]
    · rw [if_neg hz0] at hZr
      simp only [Sem.run_bind, hZ, Result.andThen_ok, Sem.run_pure] at hZr
      have hZ0 : Zr = Z.cells := by cases hZr; rfl
      subst hZ0
      rw [if_neg hz0]
      simp only [Sem.run_bind, hZ, Sem.run_pure, Result.andThen_ok, hrow, run_newRow]
  · simp only [Int.toNat_natCast]
    exact .sl h.n 0 m i.size _ n (AH.ok_new _ _) hmn (.inr ⟨by simp [ext1_new], by simp [ext1_new, hrows]⟩)

/-! ### Slice expressions -/
def OVR (N : Nat → Prop) (φ : Nat → Loc) : Option AV → Option Value → Prop
  | none, none => True
  | some x, some v => VR N φ x v
  | _, _ => False

theorem bounds_sound {N : Nat → Prop} {lo hi : Option AV} {lo' hi' : Option Value} {isS : Bool} {len cap a b : Nat} (hlo : OVR N φ lo lo') (hhi : OVR N φ hi hi') (ha : abound 0 lo = some a) (hb : abound len hi = some b)
    (hab : a ≤ b) (hbc : b ≤ cap) (w : World) : (Instr.sliceBounds isS len cap lo' hi' none).run P w = .ok (a, b, cap) w := by
  have hH : (match hi', (none : Option Value) with
    | some v, some _ => Instr.sliceBound v cap .slice3B
    | some v, none => Instr.sliceBound v cap (if isS then .sliceAcap else .sliceAlen)
    | none, none => pure len
    | none, some _ => stuck "Slice: max without high").run P w = .ok b w := by
    cases hi with
    | none =>
      cases hi' with
      | none => simp only [abound] at hb; cases hb; rfl
      | some v => exact hhi.elim
    | some x =>
      cases hi' with
      | none => exact hhi.elim
      | some v =>
        have hx : VR N φ x v := hhi
        cases hx with
        | int k n =>
          simp only [abound] at hb
          split at hb
          · rename_i hn
            cases hb
            have : 0 ≤ n ∧ n ≤ (cap : Int) := by omega
            simp [Instr.sliceBound, asIntOf, this]
          · cases hb
        | _ => simp [abound] at hb
  have hL : (match lo' with
    | some v => Instr.sliceBound v b (if (none : Option Value).isSome then .slice3C else .sliceB)
    | none => pure 0).run P w = .ok a w := by
    cases lo with
    | none =>
      cases lo' with
      | none => simp only [abound] at ha; cases ha; rfl
      | some v => exact hlo.elim
    | some x =>
      cases lo' with
      | none => exact hlo.elim
      | some v =>
        have hx : VR N φ x v := hlo
        cases hx with
        | int k n =>
          simp only [abound] at ha
          split at ha
          · rename_i hn
            cases ha
            have : 0 ≤ n ∧ n ≤ (b : Int) := by omega
            simp [Instr.sliceBound, asIntOf, this]
          · cases ha
        | _ => simp [abound] at ha
  unfold Instr.sliceBounds
  simp only [Sem.run_bind, Sem.run_pure, Result.andThen_ok]
  cases hi' <;> cases lo' <;> simp_all

theorem slice_sound (r : Rel B φ h w) {t : TypeId} {x v : AV} {x' : Value} {lo hi mx : Option AV} {lo' hi' mx' : Option Value} (hs : aslice P t x lo hi mx h = some v) (hx : VR h.ok φ x x')
    (hlo : OVR h.ok φ lo lo') (hhi : OVR h.ok φ hi hi') (hmx : OVR h.ok φ mx mx') : ∃ v', (Instr.sliceAt t x' lo' hi' mx').run P w = .ok v' w ∧ VR h.ok φ v v' := by
  unfold aslice at hs
  split at hs
  · cases hs
  have hmx' : mx' = none := by cases mx' with
    | none => rfl
    | some v => exact hmx.elim
  subst hmx'
  split at hs
  · -- a text
    rename_i l hu
    cases hx
    split at hs
    rotate_left
    · cases hs
    rename_i a b ha hb
    split at hs
    rotate_left
    · cases hs
    rename_i hcond
    cases hs
    refine ⟨.string ((⟨⟨l⟩⟩ : ByteArray).extract a b), ?_, ?_⟩
    · have hb' := bounds_sound (P := P) (isS := false) (len := l.length) (cap := l.length) hlo hhi ha hb hcond.1 hcond.2 w
      have hsz : (⟨⟨l⟩⟩ : ByteArray).size = l.length := rfl
      simp [Instr.sliceAt, Instr.slice, run_underlying hu, hsz, hb']
    · have e : (⟨⟨l⟩⟩ : ByteArray).extract a b = ⟨⟨(l.take b).drop a⟩⟩ := by
        apply ByteArray.ext
        rw [ByteArray.data_extract]
        apply Array.ext'
        simp [Array.toList_extract, List.extract_eq_take_drop, List.drop_take]
      rw [e]
      exact .str _
  · -- a slice
    rename_i e id off len sz hu
    cases hx with
    | sl _ _ _ _ a0 cap hid hl hacap =>
      split at hs
      rotate_left
      · cases hs
      rename_i s a b hsz ha hb
      split at hs
      rotate_left
      · cases hs
      rename_i hcond
      obtain ⟨rfl, hab, hbl⟩ := hcond
      cases hs
      have hb' := bounds_sound (P := P) (isS := true) (len := len) (cap := cap) hlo hhi ha hb hab (by omega) w
      refine ⟨.slice (if cap = a then some a0 else some (a0.add (a * s))) (b - a) (cap - a), ?_, ?_⟩
      · simp [Instr.sliceAt, Instr.slice, run_underlying hu, hb', run_sizeOf' hsz]
      · have hif : (if cap = a then some a0 else some (a0.add (a * s))) = some (if cap = a then a0 else a0.add (a * s)) := by split <;> rfl
        rw [hif]
        refine .sl id (off + a * s) (b - a) s _ (cap - a) hid (by omega) ?_
        by_cases hca : cap = a
        · exact .inl (by omega)
        · right
          rcases hacap with h0 | ⟨ha0, hn⟩
          · omega
          · rw [if_neg hca, ha0, addr_add]
            refine ⟨by congr 1; omega, ?_⟩
            have : (cap - a) * s + a * s = cap * s := by rw [← Nat.add_mul]; congr 1; omega
            omega
  · -- no slice
    rename_i e hu
    cases hx
    split at hs
    rotate_left
    · cases hs
    rename_i s hsz ha hb
    cases hs
    have hb' := bounds_sound (P := P) (isS := true) (len := 0) (cap := 0) hlo hhi ha hb (Nat.le_refl _) (Nat.le_refl _) w
    exact ⟨.slice none 0 0, by simp [Instr.sliceAt, Instr.slice, run_underlying hu, hb', run_sizeOf' hsz], .val _⟩
  · -- an array
    rename_i n e id off hu
    cases hx with
    | ptr _ _ hid =>
      split at hs
      rotate_left
      · cases hs
      rename_i s a b c own fz ty hsz ha hb hg
      split at hs
      rotate_left
      · cases hs
      rename_i hcond
      obtain ⟨hs0, hab, hbn, hoff⟩ := hcond
      cases hs
      obtain ⟨C, e0, lo0, hi0, h1, h2, h3, h4, h5, h6⟩ := r.cells hg
      have hb' := bounds_sound (P := P) (isS := false) (len := n) (cap := n) hlo hhi ha hb hab hbn w
      refine ⟨.slice (some (if n = a then ⟨(φ id).b, (φ id).o + off, none⟩ else (⟨(φ id).b, (φ id).o + off, none⟩ : Addr).add (a * s))) (b - a) (n - a), ?_, ?_⟩
      · simp [Instr.sliceAt, Instr.sureAddr, run_underlying hu, hb', run_sizeOf' hsz]
      · refine .sl id (off + a * s) (b - a) s _ (n - a) hid (by omega) ?_
        by_cases hca : n = a
        · exact .inl (by omega)
        · right
          rw [if_neg hca, addr_add]
          refine ⟨by congr 1; omega, ?_⟩
          have : (n - a) * s + a * s = n * s := by rw [← Nat.add_mul]; congr 1; omega
          omega
  · cases hs

/-! ### Addresses and parts -/
theorem fieldsOf_some {t : TypeId} {fs : List Field} (hf : fieldsOf P t = some fs) : ∃ a : Array Field, P.underlying t = some (.struct a) ∧ a.toList = fs := by
  unfold fieldsOf at hf
  split at hf
  · rename_i a ha; cases hf; exact ⟨a, ha, rfl⟩
  · cases hf

theorem fieldAddr_sound {N : Nat → Prop} {s : TypeId} {x v : AV} {x' : Value} {f : Nat} (hf : afieldAddr P s x f = some v) (hx : VR N φ x x') (w : World) :
    ∃ v', (Instr.fieldAt s x' f).run P w = .ok v' w ∧ VR N φ v v' := by
  unfold afieldAddr at hf
  split at hf
  rotate_left
  · rename_i fs g off hfs
    obtain ⟨a, hu, rfl⟩ := fieldsOf_some hfs
    cases hx with
    | val _ =>
      split at hf
      rotate_left
      · cases hf
      rename_i fd hfd
      split at hf
      rotate_left
      · cases hf
      rename_i n hn
      split at hf
      · cases hf
      rename_i hn0
      cases hf
      rw [Array.getElem?_toList] at hfd
      refine ⟨.pointer (some ⟨g, off + fd.offset, none⟩), ?_, .val _⟩
      simp [Instr.fieldAt, run_underlying hu, hfd, Instr.sureAddr, fieldPlace, run_sizeOf' hn, hn0, addr_add]
  · cases hf
  rename_i fs id off hfs
  obtain ⟨a, hu, rfl⟩ := fieldsOf_some hfs
  cases hx with
  | ptr _ _ hid =>
    split at hf
    rotate_left
    · cases hf
    rename_i fd hfd
    split at hf
    rotate_left
    · cases hf
    rename_i n hn
    split at hf
    · cases hf
    rename_i hn0
    cases hf
    rw [Array.getElem?_toList] at hfd
    refine ⟨.pointer (some ⟨(φ id).b, (φ id).o + (off + fd.offset), none⟩), ?_, .ptr _ _ hid⟩
    simp [Instr.fieldAt, run_underlying hu, hfd, Instr.sureAddr, fieldPlace, run_sizeOf' hn, hn0, addr_add, Nat.add_assoc]

theorem field_sound {N : Nat → Prop} {t : TypeId} {x v : AV} {x' : Value} {f : Nat} (hf : afield P t x f = some v) (hx : VR N φ x x') (w : World) :
    ∃ v', (Instr.field t x' f).run P w = .ok v' w ∧ VR N φ v v' := by
  unfold afield at hf
  split at hf
  rotate_left
  · cases hf
  rename_i fs cs hfs
  obtain ⟨a, hu, rfl⟩ := fieldsOf_some hfs
  cases hx with
  | agg _ vs hl hv =>
    split at hf
    rotate_left
    · cases hf
    rename_i fd hfd
    rw [Array.getElem?_toList] at hfd
    obtain ⟨u, hu', hr⟩ := run_part' hf (vs := vs) (N := N) (φ := φ) ⟨by simpa using hl, fun i x v hx hv' => hv i x v hx (by simpa using hv')⟩ w
    exact ⟨u, by simp [Instr.field, run_underlying hu, hfd, asAgg, hu'], hr⟩

theorem indexAddr_sound {N : Nat → Prop} {t : TypeId} {x i v : AV} {x' i' : Value} (hs : aindexAddr P t x i = some v) (hx : VR N φ x x') (hi : VR N φ i i') (w : World) :
    ∃ v', (Instr.indexAt t x' i').run P w = .ok v' w ∧ VR N φ v v' := by
  unfold aindexAddr at hs
  split at hs
  · rename_i len e id off k n hu
    cases hi
    cases hx with
    | ptr _ _ hid =>
      split at hs
      rotate_left
      · cases hs
      rename_i s hsz
      split at hs
      rotate_left
      · cases hs
      rename_i hc
      cases hs
      refine ⟨.pointer (some ⟨(φ id).b, (φ id).o + (off + n.toNat * s), none⟩), ?_, .ptr _ _ hid⟩
      simp [Instr.indexAt, asIntOf, run_underlying hu, Instr.sureAddr, hc, run_sizeOf' hsz, addr_add, Nat.add_assoc]
  · rename_i len e g off k n hu
    cases hi
    cases hx with
    | val _ =>
      split at hs
      rotate_left
      · cases hs
      rename_i s hsz
      split at hs
      rotate_left
      · cases hs
      rename_i hc
      cases hs
      refine ⟨.pointer (some ⟨g, off + n.toNat * s, none⟩), ?_, .val _⟩
      simp [Instr.indexAt, asIntOf, run_underlying hu, Instr.sureAddr, hc, run_sizeOf' hsz, addr_add]
  · rename_i e id off len sz k n hu
    cases hi
    cases hx with
    | sl _ _ _ _ a cap hid hl hacap =>
      split at hs
      rotate_left
      · cases hs
      rename_i s hsz
      split at hs
      rotate_left
      · cases hs
      rename_i hc
      obtain ⟨rfl, hc0, hc1⟩ := hc
      cases hs
      rcases hacap with h0 | ⟨ha, _⟩
      · omega
      · subst ha
        refine ⟨.pointer (some ⟨(φ id).b, (φ id).o + (off + n.toNat * s), none⟩), ?_, .ptr _ _ hid⟩
        simp [Instr.indexAt, asIntOf, run_underlying hu, hc0, hc1, run_sizeOf' hsz, addr_add, Nat.add_assoc]
  · cases hs

theorem bytes_get (l : List UInt8) (n : Nat) : (⟨⟨l⟩⟩ : ByteArray)[n]? = l[n]? := by
  by_cases hn : n < l.length
  · rw [List.getElem?_eq_getElem hn, getElem?_pos (⟨⟨l⟩⟩ : ByteArray) n (show n < (⟨⟨l⟩⟩ : ByteArray).size from hn)]
    rfl
  · rw [List.getElem?_eq_none (by omega), getElem?_neg (⟨⟨l⟩⟩ : ByteArray) n (show ¬ n < (⟨⟨l⟩⟩ : ByteArray).size from hn)]

theorem index_sound {N : Nat → Prop} {t : TypeId} {x i v : AV} {x' i' : Value} (hs : aindex P t x i = some v) (hx : VR N φ x x') (hi : VR N φ i i') (w : World) :
    ∃ v', (Instr.index t x' i').run P w = .ok v' w ∧ VR N φ v v' := by
  unfold aindex at hs
  split at hs
  · rename_i len e cs k n hu
    cases hi
    cases hx with
    | agg _ vs hl hv =>
      split at hs
      rotate_left
      · cases hs
      rename_i s hsz
      split at hs
      rotate_left
      · cases hs
      rename_i hc
      obtain ⟨u, hu', hr⟩ := run_part' hs (vs := vs) (N := N) (φ := φ) ⟨by simpa using hl, fun i x v hx hv' => hv i x v hx (by simpa using hv')⟩ w
      exact ⟨u, by simp [Instr.index, asIntOf, run_underlying hu, hc, run_sizeOf' hsz, hu'], hr⟩
  · rename_i l k n hu
    cases hi
    cases hx
    split at hs
    rotate_left
    · cases hs
    rename_i hn
    cases hb : l[n.toNat]? with
    | none => simp [hb] at hs
    | some b =>
      simp [hb] at hs
      subst hs
      exact ⟨_, by simp [Instr.index, asIntOf, run_underlying hu, hn, bytes_get, hb], .int _ _⟩
  · cases hs

end Go.Proofs.YtobhmahlenjheaaM
