/- Conversions, texts gone over, assertions, held against the model's. -/
import Derived.Test.YtobhmahlenjheaaM9
import Derived.Lib.Builder
set_option linter.unusedSimpArgs false
set_option linter.unusedVariables false
namespace Go.Proofs.YtobhmahlenjheaaM
open Go Go.RowKit

variable {P : Program} {B : Nat} {φ : Nat → Loc} {h : AH} {w : World}

theorem VR.strOf (N : Nat → Prop) (φ : Nat → Loc) (s : ByteArray) : VR N φ (.str s.data.toList) (.string s) := by
  obtain ⟨⟨l⟩⟩ := s
  exact .str l

theorem AH.set_same {h : AH} {id : Nat} {o : AO} (hg : h.get id = some o) : h.set id o = h := by
  have hlt := AH.get_lt hg
  simp only [AH.get, if_pos hlt] at hg
  have hg' : h.l[h.n - 1 - id]? = some (some o) := by
    cases hq : h.l[h.n - 1 - id]? with
    | none => rw [hq] at hg; cases hg
    | some q => rw [hq] at hg; simp at hg; rw [hg]
  simp only [AH.set, if_pos hlt]
  have : h.l.set (h.n - 1 - id) (some o) = h.l := by
    apply List.ext_getElem?
    intro i
    rw [List.getElem?_set]
    split
    · rename_i he
      subst he
      split
      · exact hg'.symm
      · rename_i hge; rw [List.getElem?_eq_none (by omega)]
    · rfl
  rw [this]

/-- A block whose marks turn, but not what it says. -/
theorem Rel.turn (r : Rel B φ h w) {w' : World} {id : Nat} {o : AO} (hg : h.get id = some o) (ho : o.owned = true) (t : Turned w w' (φ id).b) (ho' : ObjR h.ok φ (φ id) o w'.heap[(φ id).b]?) :
    Rel B φ h w' ∧ Step φ h w φ h w' := by
  have := r.update hg ho t o ho'
  rwa [AH.set_same hg] at this

theorem freeze_turned (w : World) (b o n : Nat) : Turned w (w.freeze ⟨b, o, none⟩ n) b := by
  unfold World.freeze
  split
  · exact ⟨rfl, rfl, rfl, rfl, fun _ _ => rfl⟩
  · refine ⟨rfl, rfl, rfl, by simp, fun k hk => ?_⟩
    simp only [Array.getElem?_modify]
    rw [if_neg (by omega)]

theorem freeze_at {w : World} {b : Nat} {C : Array Value} {e : TypeId} (hb : w.heap[b]? = some (.cells C e (0, 0))) (o n : Nat) (hn : n ≠ 0) : (w.freeze ⟨b, o, none⟩ n).heap[b]? = some (.cells C e (o, o + n)) := by
  unfold World.freeze
  rw [if_neg hn]
  simp [Array.getElem?_modify, hb]

theorem stringToBytes_sound (r : Rel B φ h w) (e : TypeId) (l : List UInt8) :
    ∃ v' w', (Conv.stringToBytes e ⟨⟨l⟩⟩).run P w = .ok v' w' ∧ Res B φ h w (.sl h.n 0 l.length 1) (h.push (.cells (l.map fun b => .int .u8 b.toNat) true 0 (some (e, false)))) v' w' := by
  have hsz : (⟨⟨l⟩⟩ : ByteArray).size = l.length := rfl
  generalize hcut : Question.cut (.appendCap l.length 0 e) (w.tape w.drawn (.appendCap l.length 0 e)) = cut
  have hcut' : l.length ≤ cut := by rw [← hcut]; simp only [Question.cut]; omega
  let vs : Array Value := (⟨l⟩ : Array UInt8).map (fun b => Value.int .u8 b.toNat) ++ Array.replicate (cut - l.length) (.int .u8 0)
  have hvs : vs.size = cut := by simp [vs]; omega
  have hv : VRs h.ok φ (l.map fun b => .int .u8 b.toNat) (vs.toList.take (l.map fun b => (AV.int .u8 b.toNat)).length) := by
    have e1 : vs.toList.take (l.map fun b => (AV.int .u8 b.toNat)).length = l.map fun b => Value.int .u8 b.toNat := by
      simp only [vs, Array.toList_append, Array.toList_map, List.length_map]
      rw [List.take_left' (by simp)]
    rw [e1]
    exact VRs.map _ _ (fun b => .int _ _) l
  obtain ⟨r1, s1⟩ := (rel_drew r).fresh (l.map fun b => .int .u8 b.toNat) vs e 0 (cut - l.length) (some (e, false)) (fun t b ht => by cases ht; exact ⟨rfl, fun hb => by cases hb⟩) hv (by rw [hvs]; simp; omega)
  have hb : (w.drew.alloc (.cells vs e)).heap[w.heap.size]? = some (.cells vs e (0, 0)) := alloc_new w.drew _
  have ht := freeze_turned (w.drew.alloc (.cells vs e)) w.heap.size vs.size 1
  have hf := freeze_at hb vs.size 1 (by omega)
  obtain ⟨r2, s2⟩ := r1.turn (w' := (w.drew.alloc (.cells vs e)).freeze ⟨w.heap.size, vs.size, none⟩ 1) (id := h.n) (AH.get_push_new h _) rfl (by rw [ext1_new]; exact ht) (by
    rw [ext1_new]
    show ObjR _ _ _ _ ((w.drew.alloc (.cells vs e)).freeze ⟨w.heap.size, vs.size, none⟩ 1).heap[w.heap.size]?
    rw [hf]
    refine ⟨vs, e, vs.size, vs.size + 1, rfl, rfl, by show 0 + _ ≤ _; rw [hvs]; simp; omega, fun i x hx => ?_, fun _ i _ hi' => by omega, fun t b ht => by cases ht; exact ⟨rfl, fun hb => by cases hb⟩⟩
    obtain ⟨v, hv', hr⟩ := hv.at hx
    rw [List.getElem?_take] at hv'
    split at hv'
    · rw [Array.getElem?_toList] at hv'
      exact ⟨v, by simpa using hv', hr.mono (fun _ hk => AH.ok_push hk) fun id hid => ext1_old (AH.ok_lt hid)⟩
    · cases hv')
  refine ⟨.slice (some ⟨w.heap.size, 0, none⟩) l.length cut, (w.drew.alloc (.cells vs e)).freeze ⟨w.heap.size, vs.size, none⟩ 1, ?_, _, ?_, r2, ((step_drew φ h w).trans s1).trans s2⟩
  · have hshape : (w.drew.alloc (.cells vs e)).shape? w.heap.size = some (e, vs.size) := by
      unfold World.shape?
      rw [hb]
    have hmark : (markStringish ⟨w.heap.size, 0, none⟩).run P (w.drew.alloc (.cells vs e)) = .ok () ((w.drew.alloc (.cells vs e)).freeze ⟨w.heap.size, vs.size, none⟩ 1) := by
      unfold markStringish
      simp only [Sem.run_bind, run_shape, Result.andThen_ok]
      rw [hshape]
      rfl
    have hdrew : (w.drew).heap.size = w.heap.size := rfl
    have hmk : (⟨l⟩ : Array UInt8).map (fun b => Value.int .u8 b.toNat) ++ Array.replicate (cut - l.length) (.int .u8 0) = vs := rfl
    unfold Conv.stringToBytes
    have hq : (choose (.appendCap (⟨⟨l⟩⟩ : ByteArray).size 0 e)).run P w = .ok cut w.drew := by
      rw [hsz, run_choose]
      simp only [Question.forced, Bool.false_eq_true, if_false]
      rw [hcut]
      rfl
    rw [hsz] at hq
    simp only [Sem.run_bind, hsz, hq, Result.andThen_ok, run_newRow, hsz, hdrew, hmk, hmark, Sem.run_pure]
  · exact .sl h.n 0 l.length 1 _ cut (AH.ok_new _ _) hcut' (.inr ⟨by rw [ext1_new]; rfl, by simp [ext1_new, hvs]⟩)

theorem abytes_map : ∀ {cs : List AV} {l : List UInt8}, abytes cs = some l → ∃ ns : List Int, cs = ns.map (AV.int .u8) ∧ l = ns.map fun n => UInt8.ofNat n.toNat
  | [], l, h => by simp only [abytes] at h; cases h; exact ⟨[], rfl, rfl⟩
  | c :: cs, l, h => by
    unfold abytes at h
    split at h
    · rename_i he; cases he
    · rename_i n r he
      cases he
      cases hr : abytes cs with
      | none => simp [hr] at h
      | some l' =>
        simp [hr] at h
        obtain ⟨ns, h1, h2⟩ := abytes_map hr
        exact ⟨n :: ns, by rw [h1]; rfl, by rw [← h, h2]; rfl⟩
    · cases h

theorem VRs.u8s {N : Nat → Prop} : ∀ {ns : List Int} {vs : List Value}, VRs N φ (ns.map (AV.int .u8)) vs → vs = ns.map (Value.int .u8)
  | [], [], _ => rfl
  | n :: ns, v :: vs, h => by
    have hh := h.head
    cases hh
    have := VRs.u8s h.tail
    rw [this]
    rfl
  | [], _ :: _, h => by have := h.1; simp at this
  | _ :: _, [], h => by have := h.1; simp at this

theorem foldl_push (ns : List Int) : ∀ s : List UInt8, ns.foldl (fun (r : ByteArray) n => r.push (UInt8.ofNat n.toNat)) ⟨⟨s⟩⟩ = ⟨⟨s ++ ns.map fun n => UInt8.ofNat n.toNat⟩⟩ := by
  induction ns with
  | nil => intro s; simp
  | cons n ns ih =>
    intro s
    simp only [List.foldl_cons, List.map_cons]
    have : (⟨⟨s⟩⟩ : ByteArray).push (UInt8.ofNat n.toNat) = ⟨⟨s ++ [UInt8.ofNat n.toNat]⟩⟩ := by
      show (⟨(⟨s⟩ : Array UInt8).push _⟩ : ByteArray) = _
      congr 1
      apply Array.ext'
      simp
    rw [this, ih]
    simp

theorem conv_sound (r : Rel B φ h w) {s d : TypeId} {x v : AV} {x' : Value} {h' : AH} (hc : aconv P s d x h = some (v, h')) (hx : VR h.ok φ x x') :
    ∃ v' w', (convert s d x').run P w = .ok v' w' ∧ Res B φ h w v h' v' w' := by
  unfold aconv at hc
  split at hc
  · rename_i sd k k' n hs hd
    cases hx; cases hc
    exact ⟨_, _, by simp [convert, run_underlying hs, run_underlying hd, Conv.intToInt], Res.pure r (.int _ _)⟩
  · rename_i sd k n hs hd
    cases hx; cases hc
    exact ⟨_, _, by simp [convert, run_underlying hs, run_underlying hd, Conv.intToString], Res.pure r (VR.strOf _ _ _)⟩
  · rename_i sd l hs hd
    cases hx; cases hc
    exact ⟨_, _, by simp [convert, run_underlying hs, run_underlying hd], Res.pure r (.str _)⟩
  · rename_i sd e l hs hd
    cases hx
    split at hc
    · rename_i he
      cases hc
      have : (convert s d (.string ⟨⟨l⟩⟩)).run P w = (Conv.stringToBytes e ⟨⟨l⟩⟩).run P w := by simp [convert, run_underlying hs, run_underlying hd, run_underlying he]
      rw [this]
      exact stringToBytes_sound r e l
    · cases hc
  · rename_i _ e hs hd hni hnstr
    split at hc
    rotate_left
    · cases hc
    rename_i n he hn
    split at hc
    rotate_left
    · cases hc
    rename_i cs hcs
    cases hb : abytes cs with
    | none => simp [hb] at hc
    | some l =>
      simp [hb] at hc
      obtain ⟨rfl, rfl⟩ := hc
      obtain ⟨ns, hns, hl⟩ := abytes_map hb
      obtain ⟨vs, hvs, hvv, hlen⟩ := acells_sound (P := P) r hcs hx
      rw [hns] at hvv
      have hvs' := VRs.u8s hvv
      cases hx with
      | val v0 =>
        unfold alen at hn
        split at hn
        · rename_i he'; cases he'; cases hn
          have hns0 : ns = [] := by
            have : ns.length = 0 := by have := hlen; rw [hns] at this; simpa using this
            exact List.eq_nil_of_length_eq_zero this
          subst hns0
          subst hl
          refine ⟨.string .empty, w, ?_, Res.pure r (.str [])⟩
          simp [convert, run_underlying hs, run_underlying hd, run_underlying he, Conv.bytesToString]
        · rename_i he'; cases he'
        · rename_i he'; cases he'
        · cases hn
      | sl id off len sz a cap hid hl' ha =>
        simp only [alen] at hn
        cases hn
        rw [run_convert_bytes_string w s d e (some a) n cap hs he hd]
        have hload : (loadCells a n).run P w = .ok (ns.map (Value.int .u8)).toArray w := by
          have : (Builtin.firstCells 1 n (.slice (some a) n cap)).run P w = (loadCells a (n * 1)).run P w := rfl
          rw [this, Nat.mul_one] at hvs
          rw [hvs]
          congr 1
          apply Array.ext'
          simpa using hvs'
        rw [run_bytesToString w a n cap ns hload]
        refine ⟨_, _, rfl, Res.pure r ?_⟩
        have := foldl_push ns []
        have e0 : (ByteArray.empty : ByteArray) = ⟨⟨[]⟩⟩ := rfl
        rw [e0, this, hl]
        exact .str _
      | str l0 => exact absurd rfl (hnstr l0)
      | _ => simp [alen] at hn
  · rename_i t id off hs hd
    split at hc
    rotate_left
    · cases hc
    rename_i c own fz ty n hg hsz
    split at hc
    rotate_left
    · cases hc
    rename_i hcond
    cases hc
    obtain ⟨C, e, lo, hi, h1, h2, h3, h4, h5, h6⟩ := r.cells hg
    obtain ⟨i, hi', his⟩ := info_of_szOf hsz
    cases hx with
    | ptr _ _ hid =>
      have hsh : w.shape? (φ id).b = some (e, C.size) := by unfold World.shape?; rw [h1]
      exact ⟨_, w, Lib.run_to_unsafe w ⟨(φ id).b, (φ id).o + off, none⟩ hs hd hi' (by rw [his]; exact hcond.1) hsh (by show (φ id).o + off < C.size; omega), Res.pure r (.ptr id off hid)⟩
  · rename_i u id off hs hd
    split at hc
    rotate_left
    · cases hc
    rename_i c own fz e n hg hsz
    split at hc
    rotate_left
    · cases hc
    rename_i hcond
    cases hc
    obtain ⟨C, e', lo, hi, h1, h2, h3, h4, h5, h6⟩ := r.cells hg
    obtain ⟨k1, k2⟩ := h6 _ _ rfl
    obtain ⟨k2, k3⟩ := k2 rfl
    subst k1
    obtain ⟨i, hi', his⟩ := info_of_szOf hsz
    cases hx with
    | ptr _ _ hid =>
      have hsh : w.shape? (φ id).b = some (e', C.size) := by unfold World.shape?; rw [h1]
      refine ⟨_, w, Lib.run_from_unsafe w ⟨(φ id).b, (φ id).o + off, none⟩ hs hd hi' hsh ?_, Res.pure r (.ptr id off hid)⟩
      rw [k2, Nat.zero_add, h2, k3]
      exact hcond
  · cases hc

/-! ### Texts gone over -/
theorem range_sound (r : Rel B φ h w) {t : TypeId} {x v : AV} {x' : Value} {h' : AH} (hc : arange P t x h = some (v, h')) (hx : VR h.ok φ x x') :
    ∃ v' w', (Instr.range t x').run P w = .ok v' w' ∧ Res B φ h w v h' v' w' := by
  unfold arange at hc
  split at hc
  · rename_i l hu
    cases hx; cases hc
    obtain ⟨r', s'⟩ := r.push (.siter l 0) (.stringIter ⟨⟨l⟩⟩ 0) ⟨w.heap.size, 0, 0⟩ rfl ⟨rfl, rfl⟩
    refine ⟨.pointer (some ⟨w.heap.size, 0, none⟩), w.alloc (.stringIter ⟨⟨l⟩⟩ 0), by simp [Instr.range, run_underlying hu], _, ?_, r', s'⟩
    have := VR.ptr (N := (h.push (.siter l 0)).ok) (φ := ext1 φ h.n ⟨w.heap.size, 0, 0⟩) h.n 0 (AH.ok_new _ _)
    rw [ext1_new] at this
    exact this
  · cases hc

theorem run_getObj {b : Nat} {o : Obj} (hb : w.heap[b]? = some o) (hc : ∀ c e f, o ≠ .cells c e f) : (getObj b).run P w = .ok o w := by
  simp only [getObj, Sem.run, hb]

theorem run_setObj {b : Nat} {o x : Obj} (hb : w.heap[b]? = some x) (hc : ∀ c e f, x ≠ .cells c e f) : ∃ w', (setObj b o).run P w = .ok () w' ∧ Turned w w' b ∧ w'.heap[b]? = some o := by
  have hlt : b < w.heap.size := by
    rcases Nat.lt_or_ge b w.heap.size with h' | h'
    · exact h'
    · rw [Array.getElem?_eq_none h'] at hb; cases hb
  refine ⟨{ w with heap := w.heap.setIfInBounds b o }, ?_, ⟨rfl, rfl, rfl, by simp, fun k hk => by simp [Array.getElem?_setIfInBounds, Ne.symm hk]⟩, by simp [Array.getElem?_setIfInBounds, hlt]⟩
  simp only [setObj, Sem.run, hb]

theorem next_sound (r : Rel B φ h w) {it v : AV} {it' : Value} {b : Bool} {ty : TypeId} {h' : AH} (hc : anext it b h = some (v, h')) (hx : VR h.ok φ it it') :
    ∃ v' w', (Instr.next it' b ty).run P w = .ok v' w' ∧ Res B φ h w v h' v' w' := by
  unfold anext at hc
  split at hc
  rotate_left
  · cases hc
  rename_i id
  split at hc
  rotate_left
  · cases hc
  rename_i s pos hg
  cases hx with
  | ptr _ _ hid =>
    have ho := r.obj id _ hg
    obtain ⟨ho0, hob⟩ := ho
    have hsz : (⟨⟨s⟩⟩ : ByteArray).size = s.length := rfl
    have hget := run_getObj (P := P) hob (fun _ _ _ => by simp)
    split at hc
    · rename_i hlt
      cases hc
      obtain ⟨w', hset, ht, hw'⟩ := run_setObj (P := P) (o := .stringIter ⟨⟨s⟩⟩ (pos + (Utf8.decode ⟨⟨s⟩⟩ pos).2)) hob (fun _ _ _ => by simp)
      obtain ⟨r', s'⟩ := r.update hg rfl ht (.siter s (pos + (Utf8.decode ⟨⟨s⟩⟩ pos).2)) (by rw [hw']; exact ⟨ho0, rfl⟩)
      refine ⟨.tuple #[.bool true, .int .i64 pos, .int .i32 (Utf8.decode ⟨⟨s⟩⟩ pos).1], w', ?_, φ, ?_, r', s'⟩
      rotate_left
      · exact VR.tups (VRs.cons (.bool true) (VRs.cons (.int .i64 pos) (VRs.cons (.int .i32 _) (VRs.nil _ _))))
      · simp only [Instr.next, ho0, Nat.add_zero, Sem.run_bind, hget, Result.andThen_ok]
        simp only [hsz, hlt, if_true, Sem.run_bind, hset, Result.andThen_ok, Sem.run_pure]
        rfl
    · rename_i hlt
      cases hc
      refine ⟨_, w, ?_, Res.pure r (VR.tups (VRs.cons (.bool false) (VRs.nil _ _)))⟩
      simp only [Instr.next, ho0, Nat.add_zero, Sem.run_bind, hget, Result.andThen_ok]
      simp only [hsz, hlt, if_false, Sem.run_pure]

theorem typeAssert_sound {N : Nat → Prop} {x v : AV} {x' : Value} {xt t : TypeId} {ok : Bool} (hc : atypeAssert P x t ok = some v) (hx : VR N φ x x') (w : World) :
    ∃ v', (Instr.typeAssert x' xt t ok).run P w = .ok v' w ∧ VR N φ v v' := by
  unfold atypeAssert at hc
  split at hc
  · cases hc
  · rename_i td t' y hni hu
    cases hx with
    | iface _ _ u hu' =>
      split at hc
      · rename_i he
        subst he
        cases hc
        refine ⟨if ok then .tuple #[u, .bool true] else u, ?_, ?_⟩
        · cases td <;> first | exact absurd rfl (hni _) | simp [Instr.typeAssert, run_underlying hu]
        · cases ok
          · exact hu'
          · exact VR.tups (VRs.cons hu' (VRs.cons (.bool true) (VRs.nil _ _)))
      · rename_i hne
        split at hc
        · rename_i hok
          cases hz : zeroOf P t with
          | none => simp [hz] at hc
          | some z =>
            simp [hz] at hc
            subst hc
            subst hok
            obtain ⟨z', rfl, hz'⟩ := run_zeroValue' hz w
            refine ⟨.tuple #[z', .bool false], ?_, VR.tups (VRs.cons (VR.ofValue _ _ z') (VRs.cons (.bool false) (VRs.nil _ _)))⟩
            cases td <;> first | exact absurd rfl (hni _) | simp [Instr.typeAssert, run_underlying hu, hne, hz']
        · cases hc
  · rename_i td hni hu
    cases hx
    split at hc
    · rename_i hok
      cases hz : zeroOf P t with
      | none => simp [hz] at hc
      | some z =>
        simp [hz] at hc
        subst hc
        subst hok
        obtain ⟨z', rfl, hz'⟩ := run_zeroValue' hz w
        refine ⟨.tuple #[z', .bool false], ?_, VR.tups (VRs.cons (VR.ofValue _ _ z') (VRs.cons (.bool false) (VRs.nil _ _)))⟩
        cases td <;> first | exact absurd rfl (hni _) | simp [Instr.typeAssert, run_underlying hu, hz']
    · cases hc
  · cases hc

end Go.Proofs.YtobhmahlenjheaaM
