/- What the machine's operations make of a function's own blocks. -/
import Derived.Test.YtlpiiifmidehjaaDoorS1
import Derived.KernelRfl
set_option linter.unusedSimpArgs false
set_option linter.unusedVariables false
namespace Go.Proofs.YtlpiiifmidehjaaDoorM
open Go Go.RowKit

variable {P : Program} {h h0 : AH} {X : List Nat} {L : List Ent}

theorem Sep.alloc (S : Sep h0 X h L) (t : TypeId) (c : List AV) : ∃ i h1, anew t c h = (.ptr i 0, h1) ∧ Sep h0 X h1 (L ++ [.blk i c t]) := by
  refine ⟨h.n, h.push (.cells c true 0 (some (t, true))), rfl, S.add (.blk h.n c t) (by rw [AH.push_n]; omega) (fun k o hg => by rw [AH.get_push_ne (by have := AH.get_lt hg; omega)]; exact hg) (AH.get_push_new _ _) (fun k hk => ?_) (by simp [Ent.ids])⟩
  simp [Ent.ids] at hk; omega

theorem Sep.blk {i id : Nat} {c : List AV} {T : TypeId} (S : Sep h0 X h L) (hi : L[i]? = some (.blk id c T)) : h.get id = some (.cells c true 0 (some (T, true))) := S.ok _ (List.mem_of_getElem? hi)

theorem Sep.load (S : Sep h0 X h L) (i : Nat) {id : Nat} {c : List AV} {T : TypeId} (hi : L[i]? = some (.blk id c T)) {t : TypeId} {off : Nat} {v : AV} (ha : apart P t c off = some v) : aload P t (.ptr id off) h = some v := by
  simp only [aload, S.blk hi, ha]

theorem Sep.store (S : Sep h0 X h L) (i : Nat) {id : Nat} {c : List AV} {T : TypeId} (hi : L[i]? = some (.blk id c T)) {t : TypeId} {off : Nat} {v : AV} {xs c' : List AV} (hv : v.cells = some xs) (hs : szOf P t = some xs.length)
    (ho : xs.all AV.one = true) (hle : off + xs.length ≤ c.length) (hc : splice c off xs = c') : ∃ h1, astore P t (.ptr id off) v h = some h1 ∧ Sep h0 X h1 (L.set i (.blk id c' T)) := by
  subst hc
  have hg := S.blk hi
  refine ⟨h.set id (.cells (splice c off xs) true 0 (some (T, true))), ?_, S.upd i hi (.blk id _ T) (by rw [AH.set_n]; omega) (fun k o hk hg => by rw [AH.get_set_ne (by simpa [Ent.ids] using hk)]; exact hg) (AH.get_set_same hg) (fun k hk => .inl hk) (by simp [Ent.ids])⟩
  simp only [astore, hg, hv, hs]
  rw [if_pos ⟨trivial, by omega, hle, ho⟩]

/-- Elements with their places. -/
def idxd : List AV → Nat → List (Nat × AV)
  | [], _ => []
  | v :: vs, i => (i, v) :: idxd vs (i + 1)

theorem partsAt_idxd (sz : Nat) : ∀ (vs : List AV) (xs : List (List AV)) (i : Nat), vs.map AV.cells = xs.map some → partsAt (fun i => some (i * sz, sz)) (idxd vs i) = some ((xs.zipIdx i).map fun p => (p.2 * sz, sz, p.1))
  | [], [], i, h => rfl
  | v :: vs, x :: xs, i, h => by
    simp only [List.map_cons, List.cons.injEq] at h
    simp only [idxd, partsAt, h.1, partsAt_idxd sz vs xs (i + 1) h.2, List.zipIdx_cons, List.map_cons]
  | [], x :: xs, i, h => by simp at h
  | v :: vs, [], i, h => by simp at h

theorem afill_all (sz : Nat) (zs : List AV) (hz : zs.length = sz) : ∀ (xs : List (List AV)) (pre : List AV) (i : Nat), (∀ x ∈ xs, x.length = sz) → pre.length = i * sz →
    afill (pre ++ zrow zs xs.length) ((xs.zipIdx i).map fun p => (p.2 * sz, sz, p.1)) = some (pre ++ xs.flatten)
  | [], pre, i, hx, hp => by simp [afill, zrow]
  | x :: xs, pre, i, hx, hp => by
    have h1 := hx x (List.mem_cons_self ..)
    simp only [List.zipIdx_cons, List.map_cons, afill, List.length_cons, zrow]
    rw [if_pos ⟨h1, by simp [hp, hz]⟩]
    have e : splice (pre ++ (zs ++ zrow zs xs.length)) (i * sz) x = (pre ++ x) ++ zrow zs xs.length := by
      unfold splice
      rw [← hp, h1, List.take_left', ← List.append_assoc, ← List.append_assoc, List.append_assoc pre zs]
      · congr 1
        rw [← hz, ← List.append_assoc, ← List.length_append, List.drop_left]
      · rfl
    rw [e, afill_all sz zs hz xs (pre ++ x) (i + 1) (fun y hy => hx y (List.mem_cons_of_mem _ hy)) (by rw [List.length_append, hp, h1, Nat.add_mul, Nat.one_mul])]
    simp

theorem Sep.build {t e : TypeId} {sz : Nat} (b : SlTy P t e sz) (S : Sep h0 X h L) (vs : List AV) (xs : List (List AV)) (hv : vs.map AV.cells = xs.map some) (hl : ∀ x ∈ xs, x.length = sz) (hn : xs.length * sz ≤ 16777216) :
    ∃ u h1, abuildSlice P t xs.length (idxd vs 0) h = some (u, h1) ∧ Sep h0 X h1 (L ++ [.row u e sz xs]) := by
  have hp := b.pos
  have e3 := b.hz
  refine ⟨.sl h.n 0 xs.length sz, h.push (.cells xs.flatten true 0 (some (e, false))), ?_, S.add (.row _ e sz xs) (by rw [AH.push_n]; omega) (fun k o hg => by rw [AH.get_push_ne (by have := AH.get_lt hg; omega)]; exact hg) ⟨hl, .inr ⟨h.n, rfl, AH.get_push_new _ _⟩⟩ (fun k hk => ?_) (by simp [Ent.ids, idsOf])⟩
  rotate_left
  · simp [Ent.ids, idsOf] at hk; omega
  have hp1 := partsAt_idxd sz vs xs 0 hv
  simp only [abuildSlice, b.elem, b.sz]
  rw [if_neg (by omega)]
  cases hz0 : zeroOf P e with
  | none => rw [hz0] at e3; cases e3
  | some z0 =>
    rw [hz0] at e3
    simp only [Option.bind_some] at e3
    cases hc0 : z0.cells with
    | none => rw [hc0] at e3; cases e3
    | some zs =>
      rw [hc0] at e3
      simp only [Option.map_some, Option.some.injEq] at e3
      by_cases h00 : xs.length = 0
      · obtain rfl : xs = [] := List.eq_nil_of_length_eq_zero h00
        simp only [List.length_nil, if_true, AV.cells, hp1]
        simp [zrow, afill]
      · rw [if_neg h00]
        simp only [hc0, hp1]
        rw [if_neg (fun hh => hh.2 e3)]
        have := afill_all sz zs e3 xs [] 0 hl (by simp)
        simp only [List.nil_append] at this
        rw [this]

theorem Sep.append {t t' e : TypeId} {sz : Nat} (b : SlTy P t e sz) (b' : (P.underlying t').map notInt = some true) (S : Sep h0 X h L) (i : Nat) {α : Type} {f : α → List AV} {zs ys r : List α} {u w : AV} (hi : L[i]? = some (.row u e sz (zs.map f)))
    (hw : RO sz w h (ys.map f)) (hone : ∀ y, (f y).all AV.one = true) (hr : app zs ys = some r) :
    ∃ u' h1, aappend P #[t, t'] [u, w] h = some (u', h1) ∧ Sep h0 X h1 (L.set i (.row u' e sz (r.map f))) := by
  unfold app at hr
  split at hr
  rotate_left
  · cases hr
  rename_i hlen
  cases hr
  obtain ⟨inf, hin, h1, h2, room⟩ := b.room
  have hp := b.pos
  have a0 : alen (.val (.slice none 0 0)) = some 0 := rfl
  have a1 : ∀ id o n s, alen (.sl id o n s) = some n := fun _ _ _ _ => rfl
  have ok := S.ok _ (List.mem_of_getElem? hi)
  have e5 := hw.cells hp
  rw [List.length_map] at e5
  have e6 := hw.alen
  rw [List.length_map] at e6
  have hyl := flat_len hw.1
  rw [List.length_map] at hyl
  have hone' : (ys.map f).flatten.all AV.one = true := by
    simp only [List.all_flatten, List.all_map, List.all_eq_true]
    intro y _
    exact hone y
  have hx' : ∀ x ∈ (zs ++ ys).map f, x.length = sz := fun x hx => by
    rw [List.map_append] at hx
    rcases List.mem_append.1 hx with hh | hh
    · exact ok.1 x hh
    · exact hw.1 x hh
  have same : ∀ u, ys = [] → Row e sz u h (zs.map f) → Row e sz u h ((zs ++ ys).map f) := fun u hy hu => by subst hy; simpa using hu
  rcases ok.2 with ⟨he, rfl⟩ | ⟨id, rfl, hg⟩
  · rw [List.map_eq_nil_iff] at he; subst he
    by_cases hy : ys.length = 0
    · obtain rfl : ys = [] := List.eq_nil_of_length_eq_zero hy
      refine ⟨.val (.slice none 0 0), h, ?_, S.upd i hi (.row _ e sz _) (Nat.le_refl _) (fun k o _ hg => hg) ⟨hx', .inl ⟨by simp, rfl⟩⟩ (fun k hk => .inl hk) (by simp [Ent.ids, idsOf])⟩
      simp only [aappend, List.getElem?_toArray, List.getElem?_cons_zero, List.getElem?_cons_succ, b.elem, b', hin, e6, a0, a1, h1, room _ hlen, e5, aappendAt]
      simp [room 0 (Nat.zero_le _)]
    · refine ⟨.sl h.n 0 ys.length sz, h.push (.cells (ys.map f).flatten true 0 (some (e, false))), ?_, S.upd i hi (.row _ e sz _) (by rw [AH.push_n]; omega) (fun k o _ hg => by rw [AH.get_push_ne (by have := AH.get_lt hg; omega)]; exact hg) ⟨hx', .inr ⟨h.n, by simp, by simpa using AH.get_push_new h _⟩⟩ (fun k hk => .inr ?_) (by simp [Ent.ids, idsOf])⟩
      · have := room (0 + ys.length) (by simpa using hlen)
        simp only [aappend, List.getElem?_toArray, List.getElem?_cons_zero, List.getElem?_cons_succ, b.elem, b', hin, e6, a0, a1, h1, this, e5, aappendAt, if_neg hy]
      · simp [Ent.ids, idsOf] at hk; omega
  · have hzl := flat_len ok.1
    rw [List.length_map] at hzl
    have rm := room _ hlen
    by_cases hy : ys.length = 0
    · obtain rfl : ys = [] := List.eq_nil_of_length_eq_zero hy
      refine ⟨.sl id 0 zs.length sz, h, ?_, S.upd i hi (.row _ e sz _) (Nat.le_refl _) (fun k o _ hg => hg) ⟨hx', .inr ⟨id, by simp, by simpa using hg⟩⟩ (fun k hk => .inl (by simpa [Ent.ids, idsOf] using hk)) (by simp [Ent.ids, idsOf])⟩
      simp only [aappend, List.getElem?_toArray, List.getElem?_cons_zero, List.getElem?_cons_succ, b.elem, b', hin, e6, a0, a1, List.length_map, h1, rm, e5, aappendAt, if_true]
      simp only [List.length_nil] at rm e5 ⊢
      simp only [rm, e5, if_true]
    · refine ⟨.sl h.n 0 (zs.length + ys.length) sz, (h.set id .dead).push (.cells (((zs.map f).flatten.drop 0).take (zs.length * sz) ++ (ys.map f).flatten) true (0 - 0) (tyApp e (some (e, false)))), ?_, S.upd i hi (.row _ e sz _) (by rw [AH.push_n, AH.set_n]; omega) (fun k o hk hg' => ?_) ⟨hx', .inr ⟨h.n, by simp, ?_⟩⟩ (fun k hk => .inr ?_) (by simp [Ent.ids, idsOf])⟩
      · simp only [aappend, List.getElem?_toArray, List.getElem?_cons_zero, List.getElem?_cons_succ, b.elem, b', hin, e6, a0, a1, List.length_map, h1, rm, e5, aappendAt, if_neg hy, hg]
        rw [if_pos ⟨trivial, by omega, by omega, hone'⟩]
      · have hlt := AH.get_lt hg'
        simp only [Ent.ids, idsOf, List.mem_singleton] at hk
        rw [AH.get_push_ne (by rw [AH.set_n]; omega), AH.get_set_ne hk]
        exact hg'
      · have := AH.get_push_new (h.set id .dead) (.cells (((zs.map f).flatten.drop 0).take (zs.length * sz) ++ (ys.map f).flatten) true (0 - 0) (tyApp e (some (e, false))))
        rw [AH.set_n] at this
        rw [this]
        simp only [List.drop_zero, tyApp, if_true, List.map_append, List.flatten_append]
        rw [List.take_of_length_le (by omega)]
      · simp [Ent.ids, idsOf] at hk; omega

/-- A slice that is none, as one's own. -/
theorem Sep.nilrow (S : Sep h0 X h L) (e : TypeId) (sz : Nat) : Sep h0 X h (L ++ [.row (.val (.slice none 0 0)) e sz []]) :=
  S.add _ (Nat.le_refl _) (fun _ _ hg => hg) ⟨fun x hx => (by cases hx), .inl ⟨rfl, rfl⟩⟩ (fun k hk => (by simp [Ent.ids, idsOf] at hk)) (by simp [Ent.ids, idsOf])

theorem zrow_rep (zs : List AV) : ∀ n, zrow zs n = (List.replicate n zs).flatten
  | 0 => rfl
  | n + 1 => by rw [zrow, zrow_rep zs n, List.replicate_succ, List.flatten_cons]

theorem Sep.make {t e : TypeId} {sz : Nat} (b : SlTy P t e sz) {α : Type} {f : α → List AV} {z : α} {r : List α} (hz : (zeroOf P e).bind AV.cells = some (f z)) (S : Sep h0 X h L) {n : Int} (hr : mkL z n = some r) (k k' : IntKind) :
    ∃ u h1, amakeSlice P t (.int k n) (.int k' n) h = some (u, h1) ∧ Sep h0 X h1 (L ++ [.row u e sz (r.map f)]) := by
  unfold mkL at hr
  split at hr
  rotate_left
  · cases hr
  rename_i hn
  cases hr
  obtain ⟨inf, hin, h1, h2, room⟩ := b.room
  have hp := b.pos
  cases hz0 : zeroOf P e with
  | none => rw [hz0] at hz; cases hz
  | some z0 =>
    rw [hz0] at hz
    simp only [Option.bind_some] at hz
    have e3 := b.hz
    rw [hz0] at e3
    simp only [Option.bind_some, hz, Option.map_some, Option.some.injEq] at e3
    have hb : n * ((inf.bytes : Int) + 1) ≤ sizeCap := by
      have h3 : n * ((inf.bytes : Int) + 1) ≤ 100000000 * 1000 := Int.mul_le_mul hn.2 (by omega) (by omega) (by decide)
      have : (100000000 * 1000 : Int) ≤ sizeCap := by decide
      omega
    refine ⟨.sl h.n 0 n.toNat sz, h.push (.cells (zrow (f z) n.toNat) true 0 (some (e, false))), ?_, S.add (.row _ e sz _) (by rw [AH.push_n]; omega) (fun k o hg => by rw [AH.get_push_ne (by have := AH.get_lt hg; omega)]; exact hg) ⟨fun x hx => ?_, .inr ⟨h.n, by simp, ?_⟩⟩ (fun k hk => ?_) (by simp [Ent.ids, idsOf])⟩
    · simp only [amakeSlice, b.elem, hin, hz0, hz]
      rw [if_pos ⟨hn.1, Int.le_refl _, hb, by rw [h1]; exact e3, by rw [h1]; exact hp⟩, h1]
    · obtain ⟨y, hy, rfl⟩ := List.mem_map.1 hx
      rw [List.eq_of_mem_replicate hy]; exact e3
    · rw [zrow_rep, List.map_replicate]; exact AH.get_push_new _ _
    · simp [Ent.ids, idsOf] at hk; omega

/-- A store into an element of one's own slice. -/
theorem Sep.rstore (S : Sep h0 X h L) (i : Nat) {α : Type} {f : α → List AV} {zs r : List α} {u : AV} {e : TypeId} {sz : Nat} (hi : L[i]? = some (.row u e sz (zs.map f))) {k : Int} {id off : Nat} (hp : PtrTo u sz k id off) {x z : α} (hx : idxL zs k = some x)
    {t : TypeId} {o : Nat} {v : AV} {xs : List AV} (hv : v.cells = some xs) (hs : szOf P t = some xs.length) (ho : xs.all AV.one = true) (hle : o + xs.length ≤ sz) (hsp : splice (f x) o xs = f z) (hr : setL zs k z = some r) :
    ∃ h1, astore P t (.ptr id (off + o)) v h = some h1 ∧ Sep h0 X h1 (L.set i (.row u e sz (r.map f))) := by
  unfold setL at hr
  split at hr
  rotate_left
  · cases hr
  rename_i hk
  cases hr
  unfold idxL at hx
  rw [if_pos hk.1] at hx
  obtain ⟨o1, n1, rfl, rfl⟩ := hp
  have ok := S.ok _ (List.mem_of_getElem? hi)
  rcases ok.2 with ⟨he, hh⟩ | ⟨id1, hu, hg⟩
  · cases hh
  · cases hu
    have hfl := flat_len ok.1
    rw [List.length_map] at hfl
    have hx' : (zs.map f)[k.toNat]? = some (f x) := by rw [List.getElem?_map, hx]; rfl
    have hxl : (f x).length = sz := ok.1 _ (List.mem_of_getElem? hx')
    have hzl : (f z).length = sz := by rw [← hsp]; simp [splice]; omega
    have hkz : k.toNat * sz + sz ≤ zs.length * sz := by
      have : (k.toNat + 1) * sz ≤ zs.length * sz := Nat.mul_le_mul_right _ (by omega)
      rwa [Nat.add_mul, Nat.one_mul] at this
    have key : splice (zs.map f).flatten (0 + k.toNat * sz + o) xs = ((zs.set k.toNat z).map f).flatten := by
      have hlt : k.toNat < (zs.map f).length := by rw [List.length_map]; omega
      have e1 : (zs.set k.toNat z).map f = (zs.map f).take k.toNat ++ f z :: (zs.map f).drop (k.toNat + 1) := by
        rw [List.map_set, List.set_eq_take_append_cons_drop, if_pos hlt]
      have e2 : (zs.map f).flatten = ((zs.map f).take k.toNat).flatten ++ (f x ++ ((zs.map f).drop (k.toNat + 1)).flatten) := by
        conv => lhs; rw [← List.take_append_drop k.toNat (zs.map f)]
        rw [List.flatten_append, List.drop_eq_getElem_cons hlt, List.flatten_cons]
        congr 2
        rw [List.getElem?_eq_getElem hlt] at hx'
        rw [Option.some.inj hx']
      have hA : ((zs.map f).take k.toNat).flatten.length = k.toNat * sz := by
        rw [take_flat ok.1, List.length_take, hfl]
        omega
      rw [e1, List.flatten_append, List.flatten_cons, ← hsp]
      rw [e2]
      generalize ((zs.map f).take k.toNat).flatten = A at *
      generalize ((zs.map f).drop (k.toNat + 1)).flatten = B at *
      unfold splice
      rw [show 0 + k.toNat * sz + o = A.length + o by omega, List.take_length_add_append, Nat.add_assoc, List.drop_length_add_append, List.take_append_of_le_length (by omega), List.drop_append_of_le_length (by omega)]
      simp
    refine ⟨h.set id (.cells (splice (zs.map f).flatten (0 + k.toNat * sz + o) xs) true 0 (some (e, false))), ?_, S.upd i hi (.row _ e sz _) (by rw [AH.set_n]; omega) (fun j o hj hg => by rw [AH.get_set_ne (by simpa [Ent.ids, idsOf] using hj)]; exact hg) ⟨fun y hy => ?_, .inr ⟨id, by simp, ?_⟩⟩ (fun j hj => .inl hj) (by simp [Ent.ids, idsOf])⟩
    · simp only [astore, hg, hv, hs]
      rw [if_pos ⟨trivial, by omega, by omega, ho⟩]
    · obtain ⟨w, hw, rfl⟩ := List.mem_map.1 hy
      rcases List.mem_or_eq_of_mem_set hw with hh | rfl
      · exact ok.1 _ (List.mem_map.2 ⟨w, hh, rfl⟩)
      · exact hzl
    · rw [AH.get_set_same hg, key]

/-! ### Texts and bytes -/
def cellI (k : IntKind) (z : Int) : List AV := [.int k z]
def cellS (s : List UInt8) : List AV := [.str s]
def cellB' (b : Bool) : List AV := [.bool b]

theorem abytes_ints (zs : List Int) : abytes (zs.map (cellI .u8)).flatten = some (zs.map byt) := by
  induction zs with
  | nil => rfl
  | cons z zs ih => simp only [List.map_cons, List.flatten_cons, cellI, List.cons_append, List.nil_append, abytes] at *; rw [ih]; rfl

theorem RO.str {s d : TypeId} {e : TypeId} (hs : P.underlying s = some (.slice e)) (he : P.underlying e = some (.int .u8)) (hd : P.underlying d = some .string) {u : AV} {zs : List Int} (hu : RO 1 u h (zs.map (cellI .u8))) :
    aconv P s d u h = some (.str (zs.map byt), h) := by
  have e1 := hu.cells (by omega)
  have e2 := hu.alen
  rw [List.length_map] at e1 e2
  rcases hu.2 with ⟨hh, rfl⟩ | ⟨id, off, c, o, f, ty, rfl, _⟩ | ⟨hh, id, off, rfl⟩
  · rw [List.map_eq_nil_iff] at hh; subst hh
    simp [aconv, hs, hd, he, Go.Proofs.YtlpiiifmidehjaaDoorM.alen, acells, abytes]
  · simp only [aconv, hs, hd, he, e2, e1, abytes_ints, Option.map_some]
  · simp only [aconv, hs, hd, he, e2, e1, abytes_ints, Option.map_some]

theorem Sep.bytes {s d e : TypeId} {x : TypeDesc} (hs : P.underlying s = some .string) (hd : P.underlying d = some (.slice e)) (he : P.underlying e = some (.int .u8)) (S : Sep h0 X h L) (l : List UInt8) :
    ∃ u h1, aconv P s d (.str l) h = some (u, h1) ∧ Sep h0 X h1 (L ++ [.row u e 1 ((l.map fun b => (b.toNat : Int)).map (cellI .u8))]) := by
  refine ⟨.sl h.n 0 l.length 1, h.push (.cells (l.map fun b => .int .u8 b.toNat) true 0 (some (e, false))), by simp only [aconv, hs, hd, he], S.add (.row _ e 1 _) (by rw [AH.push_n]; omega) (fun k o hg => by rw [AH.get_push_ne (by have := AH.get_lt hg; omega)]; exact hg) ⟨fun x hx => ?_, .inr ⟨h.n, by simp, ?_⟩⟩ (fun k hk => ?_) (by simp [Ent.ids, idsOf])⟩
  · obtain ⟨y, _, rfl⟩ := List.mem_map.1 hx; rfl
  · rw [AH.get_push_new]
    congr 2
    simp only [List.map_map]
    induction l with
    | nil => rfl
    | cons a l ih => simp only [List.map_cons, List.flatten_cons, ← ih]; rfl
  · simp [Ent.ids, idsOf] at hk; omega

theorem idx_str {t : TypeId} (ht : P.underlying t = some .string) {l : List UInt8} {k : IntKind} {i r : Int} (hr : idxS l i = some r) : aindex P t (.str l) (.int k i) = some (.int .u8 r) := by
  unfold idxS at hr
  split at hr
  · rename_i hc; cases hr; exact aindex_str ht hc.1 hc.2
  · cases hr
theorem sub_str {t : TypeId} (ht : P.underlying t = some .string) {l r : List UInt8} {k k' : IntKind} {a b : Int} (hr : subS l a b = some r) : aslice P t (.str l) (some (.int k a)) (some (.int k' b)) none h = some (.str r) := by
  unfold subS at hr
  split at hr
  · rename_i hc; cases hr; exact aslice_str ht hc.1 hc.2.1 hc.2.2
  · cases hr
theorem sub_strF {t : TypeId} (ht : P.underlying t = some .string) {l r : List UInt8} {k : IntKind} {a : Int} (hr : subS l a l.length = some r) : aslice P t (.str l) (some (.int k a)) none none h = some (.str r) := by
  unfold subS at hr
  split at hr
  · rename_i hc; cases hr
    rw [aslice_strF ht hc.1 hc.2.1, Int.toNat_natCast, List.take_length]
  · cases hr
theorem sub_strT {t : TypeId} (ht : P.underlying t = some .string) {l r : List UInt8} {k : IntKind} {b : Int} (hr : subS l 0 b = some r) : aslice P t (.str l) none (some (.int k b)) none h = some (.str r) := by
  unfold subS at hr
  split at hr
  · rename_i hc; cases hr
    rw [aslice_strT ht hc.2.1 hc.2.2]; rfl
  · cases hr
theorem cat_str {l m r : List UInt8} (hr : cat l m = some r) : astrop .add l m = some (.str r) := by
  unfold cat at hr
  split at hr
  · rename_i hc; cases hr; simp only [astrop, if_pos hc]
  · cases hr
theorem quo_int {k : IntKind} {a b r : Int} (hr : quoI k a b = some r) : aint .quo k a b = some (.int k r) := by
  unfold quoI at hr
  split at hr
  · cases hr
  · rename_i hc; cases hr; simp only [aint, if_neg hc]
theorem rem_int {k : IntKind} {a b r : Int} (hr : remI a b = some r) : aint .rem k a b = some (.int k r) := by
  unfold remI at hr
  split at hr
  · cases hr
  · rename_i hc; cases hr; simp only [aint, if_neg hc]

/-! ### Loops and calls -/
/-- What a round of a loop must leave behind. -/
def QL {σ ρ : Type} (I : σ → List AV → AH → Prop) (J : ρ → AX → List AV → AH → Prop) (o : σ ⊕ ρ) : AX → List AV → AH → Prop
  | .normal, e, h => ∃ s', o = .inl s' ∧ I s' e h
  | x, e, h => ∃ r, o = .inr r ∧ J r x e h
theorem QL_normal {σ ρ : Type} {I : σ → List AV → AH → Prop} {J : ρ → AX → List AV → AH → Prop} {o : σ ⊕ ρ} {e : List AV} : QL I J o .normal e h = ∃ s', o = .inl s' ∧ I s' e h := rfl
theorem QL_exit {σ ρ : Type} {I : σ → List AV → AH → Prop} {J : ρ → AX → List AV → AH → Prop} {o : σ ⊕ ρ} {e : List AV} {i : Nat} : QL I J o (.exit i) e h = ∃ r, o = .inr r ∧ J r (.exit i) e h := rfl
theorem QL_ret {σ ρ : Type} {I : σ → List AV → AH → Prop} {J : ρ → AX → List AV → AH → Prop} {o : σ ⊕ ρ} {e : List AV} : QL I J o .ret e h = ∃ r, o = .inr r ∧ J r .ret e h := rfl

theorem AW_lift {σ ρ : Type} {c : Code} {cf : CallF} {D : Array Oper → List AV → AH → Option (List AV × AH)} {fuel : Nat} {K : AX → List AV → AH → Prop} (step : σ → Option (σ ⊕ ρ)) (I : σ → List AV → AH → Prop) (J : ρ → AX → List AV → AH → Prop)
    {n fuel' : Nat} {s : σ} {env : List AV} {r : ρ} (hr : iter step n s = some r) (hn : n ≤ fuel')
    (hs : ∀ s env h o, I s env h → step s = some o → AW (acode P cf D fuel c env h) (KP P cf D fuel [] (QL I J o)))
    (hi : I s env h) (hk : ∀ x e h', J r x e h' → K x e h') : AW (aloop (acode P cf D fuel c) fuel' env h) K := by
  induction n generalizing fuel' s env h with
  | zero => cases hr
  | succ n ih =>
    obtain ⟨m, rfl⟩ : ∃ m, fuel' = m + 1 := ⟨fuel' - 1, by omega⟩
    simp only [iter] at hr
    cases hst : step s with
    | none => rw [hst] at hr; cases hr
    | some o =>
      have := hs s env h o hi hst
      obtain ⟨x, e, h', h1, h2⟩ := this.out
      rw [KP_nil] at h2
      simp only [aloop, h1]
      rw [hst] at hr
      cases x with
      | normal =>
        obtain ⟨s', rfl, h3⟩ := h2
        exact ih hr (by omega) h3
      | exit i => obtain ⟨r', rfl, h3⟩ := h2; cases hr; exact hk _ _ _ h3
      | ret => obtain ⟨r', rfl, h3⟩ := h2; cases hr; exact hk _ _ _ h3

/-- Functions that look at no memory, by number. -/
abbrev PureK := FuncId → Option (List AV → Option AV)
def hooksOf (K : PureK) : Hooks := fun f => (K f).map fun k args h => (k args).map fun v => (v, h)
def tabOf (K : PureK) : PTab := fun f => (K f).map PK.pure
def KOK (P : Program) (B : Nat) (K : PureK) : Prop := ∀ f k, K f = some k → HookOK P B f (fun args h => (k args).map fun v => (v, h))
theorem KOK.hooks {B : Nat} {K : PureK} (h : KOK P B K) : HooksOK P B (hooksOf K) := by
  intro f g hg f' args h0 v h1 hr φ w args' r ha
  simp only [hooksOf] at hg
  simp only at hr
  split at hr
  · rename_i e
    subst e
    cases hk : K f' with
    | none => rw [hk] at hg; cases hg
    | some k => rw [hk] at hg; cases hg; exact h f' k hk args h0 v h1 hr φ w args' r ha
  · cases hr
theorem KOK.tab {B : Nat} {K : PureK} (h : KOK P B K) : PTabOK P B (tabOf K) := by
  intro f p hp
  simp only [tabOf] at hp
  cases hk : K f with
  | none => rw [hk] at hp; cases hp
  | some k => rw [hk] at hp; cases hp; exact h f k hk

theorem hooksOf_none {K : PureK} {f : FuncId} (h : K f = none) : hooksOf K f = none := by simp [hooksOf, h]
theorem call_hook {K : PureK} {D : Drawn} {f : FuncId} {k : List AV → Option AV} (hk : K f = some k) (n : Nat) {args : List AV} {v : AV} (hv : k args = some v) (h : AH) : acall P (hooksOf K) D n f args h = some (v, h) := by
  rw [acall_hook (g := fun args h => (k args).map fun v => (v, h)) (by simp [hooksOf, hk]), hv]; rfl
theorem tab_hook {K : PureK} {cf : CallF} {f : FuncId} {k : List AV → Option AV} (hk : K f = some k) {args : List AV} {v : AV} (hv : k args = some v) (h : AH) : withTab (tabOf K) cf f args h = some (v, h) := by
  simp [withTab, tabOf, hk, PK.run, hv]
theorem tab_none {K : PureK} {cf : CallF} {f : FuncId} (hk : K f = none) {args : List AV} {h : AH} : withTab (tabOf K) cf f args h = cf f args h := by
  simp [withTab, tabOf, hk]

theorem CondK_dec {p : Prop} [Decidable p] {cf : CallF} {D : Array Oper → List AV → AH → Option (List AV × AH)} {fuel : Nat} {a b : Code} {env : List AV} {K : AX → List AV → AH → Prop} (h1 : p → AW (acode P cf D fuel a env h) K) (h2 : ¬ p → AW (acode P cf D fuel b env h) K) :
    CondK P cf D fuel (.bool (decide p)) a b env h K := by
  by_cases hp : p
  · rw [decide_eq_true hp]; exact h1 hp
  · rw [decide_eq_false hp]; exact h2 hp
theorem CondK_boo {v : Bool} {cf : CallF} {D : Array Oper → List AV → AH → Option (List AV × AH)} {fuel : Nat} {a b : Code} {env : List AV} {K : AX → List AV → AH → Prop} (h1 : v = true → AW (acode P cf D fuel a env h) K) (h2 : v = false → AW (acode P cf D fuel b env h) K) :
    CondK P cf D fuel (.bool v) a b env h K := by
  cases v
  · exact h2 rfl
  · exact h1 rfl

/-- Both ways of a fork lead to one place. -/
def KJ (J : List AV → AH → Prop) (K : AX → List AV → AH → Prop) : AX → List AV → AH → Prop
  | .normal, e, h => J e h
  | x, e, h => K x e h
theorem KJ_normal {J : List AV → AH → Prop} {K : AX → List AV → AH → Prop} {e : List AV} : KJ J K .normal e h = J e h := rfl
theorem KJ_exit {J : List AV → AH → Prop} {K : AX → List AV → AH → Prop} {e : List AV} {i : Nat} : KJ J K (.exit i) e h = K (.exit i) e h := rfl
theorem KJ_ret {J : List AV → AH → Prop} {K : AX → List AV → AH → Prop} {e : List AV} : KJ J K .ret e h = K .ret e h := rfl
theorem CondK_join {cf : CallF} {D : Array Oper → List AV → AH → Option (List AV × AH)} {fuel : Nat} {v : AV} {a b : Code} {env : List AV} {ks : List Fr} {Q : AX → List AV → AH → Prop} (J : List AV → AH → Prop)
    (h1 : CondK P cf D fuel v a b env h (KP P cf D fuel [] (KJ J (KP P cf D fuel ks Q)))) (h2 : ∀ e h', J e h' → KP P cf D fuel ks Q .normal e h') : CondK P cf D fuel v a b env h (KP P cf D fuel ks Q) := by
  have key : ∀ r : ARes, AW r (KP P cf D fuel [] (KJ J (KP P cf D fuel ks Q))) → AW r (KP P cf D fuel ks Q) := fun r hr => hr.mono fun x e h' hx => by
    rw [KP_nil] at hx
    cases x with
    | normal => exact h2 e h' hx
    | exit i => exact hx
    | ret => exact hx
  unfold CondK at h1 ⊢
  split at h1
  · exact key _ h1
  · exact key _ h1
  · exact h1.elim
theorem GuardW_dec {p : Prop} [Decidable p] {want : Bool} {cf : CallF} {op : Op} {d : Option Tmp} {ops : Array Oper} {l : List Oper} {env : List AV} {K : List AV → AH → Prop} (h1 : p → GuardW P cf (.bool true) want op d ops l env h K) (h2 : ¬ p → GuardW P cf (.bool false) want op d ops l env h K) :
    GuardW P cf (.bool (decide p)) want op d ops l env h K := by
  by_cases hp : p
  · rw [decide_eq_true hp]; exact h1 hp
  · rw [decide_eq_false hp]; exact h2 hp
theorem GuardW_boo {v want : Bool} {cf : CallF} {op : Op} {d : Option Tmp} {ops : Array Oper} {l : List Oper} {env : List AV} {K : List AV → AH → Prop} (h1 : v = true → GuardW P cf (.bool true) want op d ops l env h K) (h2 : v = false → GuardW P cf (.bool false) want op d ops l env h K) :
    GuardW P cf (.bool v) want op d ops l env h K := by
  cases v
  · exact h2 rfl
  · exact h1 rfl
theorem AE_join {cf : CallF} {ops : Array Oper} {l : List Oper} {env : List AV} {K : List AV → AH → Prop} (J : List AV → AH → Prop) (h1 : AE (aops P cf ops l env h) J) (h2 : ∀ e h', J e h' → K e h') : AE (aops P cf ops l env h) K := by
  unfold AE at *
  split
  · rename_i t ht; rw [ht] at h1; exact h2 _ _ h1
  · rename_i ht; rw [ht] at h1; exact h1
end Go.Proofs.YtlpiiifmidehjaaDoorM
