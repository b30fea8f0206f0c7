/- The value machine: operations that read. -/
import Derived.Test.YtlpiiifmidehjaaDoorV3
set_option linter.unusedSimpArgs false
set_option linter.unusedVariables false
namespace Go.Proofs.YtlpiiifmidehjaaDoorM
open Go Go.RowKit

section
variable {R : Type}
/-- A composite, as a plain value where it is one. -/
def normA (P : Program) (t : TypeId) (s : SV) : SV :=
  match tyOf P t with
  | some T => match toT T s with
    | some v => .pv T v
    | none => s
  | none => s

/-- Cells of a list of such. -/
def cellsAt (P : Program) (t : TypeId) (cs : SV) (off : Nat) : Option SV :=
  match isAg P t with
  | some true => match szOf P t with
    | some n => if off + n ≤ cs.len then some (normA P t (.agg ((cs.drp off).tk n))) else none
    | none => none
  | some false => cs.nth off
  | none => none

def partAt (P : Program) (t : TypeId) (T : Ty) (v : T.D) (o : Nat) : Option SV :=
  match tyOf P t with
  | some T' => match partT T v o T' with
    | some w => some (.pv T' w)
    | none => none
  | none => none

def vload (P : Program) (m : Md R) (S : VS) (t : TypeId) (a : SV) (K : SV → Option R) : Option R :=
  match a with
  | .ptr k off => match S.os[k]? with
    | some (some (.obj _ cs)) => match cellsAt P t cs off with
      | some s => K s
      | none => none
    | _ => none
  | .fpt T v o => match partAt P t T v o with
    | some s => K s
    | none => none
  | .ept k i o => match S.os[k]? with
    | some (some (.row _ T l)) => vbind m T.dflt (idxL l i) fun v => match partAt P t T v o with
      | some s => K s
      | none => none
    | _ => none
  | _ => none

def vfieldAddr (P : Program) (t : TypeId) (a : SV) (f : Nat) : Option SV :=
  match fieldsOf P t with
  | some fs => match fs[f]? with
    | some fd => match szOf P fd.type with
      | some n => if n = 0 then none else match a with
        | .ptr k off => some (.ptr k (off + fd.offset))
        | .fpt T v o => some (.fpt T v (o + fd.offset))
        | .ept k i o => some (.ept k i (o + fd.offset))
        | _ => none
      | none => none
    | none => none
  | none => none

def vfield (P : Program) (t : TypeId) (a : SV) (f : Nat) : Option SV :=
  match fieldsOf P t with
  | some fs => match fs[f]? with
    | some fd => match a with
      | .agg cs => if cs.okL then cellsAt P fd.type cs fd.offset else none
      | .pv T v => if T.ag then partAt P fd.type T v fd.offset else none
      | _ => none
    | none => none
  | none => none

def natLit : Operand → Option Nat
  | .const (.int _ n) => if 0 ≤ n then some n.toNat else none
  | _ => none

def vindexAddr (P : Program) (m : Md R) (S : VS) (t : TypeId) (a i : SV) (lit : Option Nat) (K : SV → Option R) : Option R :=
  match i with
  | .pv (.int _) i => match P.underlying t with
    | some (.slice e) => match a with
      | .row k => match S.os[k]? with
        | some (some (.row _ T l)) => if szOf P e = some T.size then vbind m T.dflt (idxL l i) fun _ => K (.ept k i 0) else none
        | _ => none
      | .view k a b => match S.os[k]? with
        | some (some (.row _ T l)) => if szOf P e = some T.size then vbind m () (chkIdx (oMi b a) i) fun _ => K (.ept k (oPl a i) 0) else none
        | _ => none
      | .pv (.lst T) l => if szOf P e = some T.size ∧ T.size ≠ 0 then vbind m T.dflt (idxL l i) fun v => K (.fpt T v 0) else none
      | _ => none
    | some (.array n e) => match a with
      | .gpt _ T l => if szOf P e = some T.size ∧ l.length = n then vbind m T.dflt (idxL l i) fun v => K (.fpt T v 0) else none
      | .ptr k off => match lit, szOf P e with
        | some j, some s => if j < n ∧ (j : Int) = i then K (.ptr k (off + j * s)) else none
        | _, _ => none
      | _ => none
    | _ => none
  | _ => none

def vindex (P : Program) (m : Md R) (t : TypeId) (a i : SV) (K : SV → Option R) : Option R :=
  match i with
  | .pv (.int _) i => match P.underlying t, a with
    | some .string, .pv .str l => vbind m (0 : Int) (idxS l i) fun z => K (.pv (.int .u8) z)
    | _, _ => none
  | _ => none
end

section
variable {R : Type} {m : Md R} {P : Program} {g : FM} {H : List AV} {env : List AV} {h : AH}

theorem normA_ok {t : TypeId} {s : SV} {x : AV} (hr : SVR g H s x) : SVR g H (normA P t s) x := by
  unfold normA
  split
  · split
    · exact ⟨x, rfl, toT_ok ‹_› hr⟩
    · exact hr
  · exact hr

theorem cellsAt_ok {t : TypeId} {cs s : SV} {off : Nat} (hs : cellsAt P t cs off = some s) {c : List AV} (ho : cs.okL = true) (hr : SVL g H cs c) : ∃ x, apart P t c off = some x ∧ SVR g H s x := by
  have hL := SV.okL_isL ho
  unfold cellsAt at hs
  unfold apart
  split at hs
  · rename_i ha
    rw [ha]
    split at hs
    · rename_i n hn
      rw [hn]
      split at hs
      · rename_i hle
        cases hs
        refine ⟨.agg ((c.drop off).take n), by simp only [SVL.len hL hr, if_pos hle], normA_ok ⟨_, rfl, ?_⟩⟩
        have h1 := SVL.drp (n := off) hL (by omega) hr
        exact SVL.tk (SV.isL_drp hL) (by rw [SV.len_drp hL]; omega) h1
      · cases hs
    · cases hs
  · rename_i ha
    rw [ha]
    exact SVL.nth hr hs
  · cases hs

theorem partAt_ok {t : TypeId} {T : Ty} {v : T.D} {o : Nat} {s : SV} (hs : partAt P t T v o = some s) {c : List AV} {off : Nat} (hl : off + T.size ≤ c.length) (hr : RepC g T ((c.drop off).take T.size) v) : ∃ x, apart P t c (off + o) = some x ∧ SVR g H s x := by
  unfold partAt at hs
  split at hs
  · rename_i T' hT
    split at hs
    · rename_i w hw
      cases hs
      obtain ⟨h1, h2⟩ := partT_ok hr hw
      have hlen : ((c.drop off).take T.size).length = T.size := by rw [List.length_take, List.length_drop]; omega
      rw [hlen] at h1
      rw [List.drop_take, List.take_take, Nat.min_eq_left (by omega), List.drop_drop] at h2
      obtain ⟨x, h3, h4⟩ := apart_rep hT (c := c) (off := off + o) (by omega) h2
      exact ⟨x, h3, ⟨x, rfl, h4⟩⟩
    · cases hs
  · cases hs

theorem seg_get {c : List AV} {off sz n : Nat} {xs : List (List AV)} (hs : (c.drop off).take (n * sz) = xs.flatten) (hx : ∀ x ∈ xs, x.length = sz) (hb : off + n * sz ≤ c.length) {i : Nat} {x : List AV} (hi : xs[i]? = some x) (hn : i < n) :
    off + i * sz + sz ≤ c.length ∧ (c.drop (off + i * sz)).take sz = x := by
  obtain ⟨f1, f2⟩ := flat_get hx i x hi
  have hm : i * sz + sz ≤ n * sz := by rw [← Nat.succ_mul]; exact Nat.mul_le_mul_right _ hn
  refine ⟨by omega, ?_⟩
  rw [← hs, List.drop_take, List.take_take, Nat.min_eq_left (by omega), List.drop_drop] at f1
  exact f1
theorem all_len {T : Ty} {xs : List (List AV)} {l : List T.D} (ha : All2 (RepC g T) xs l) : ∀ x ∈ xs, x.length = T.size := fun x hx => by
  obtain ⟨i, hi, rfl⟩ := List.mem_iff_getElem.1 hx
  obtain ⟨v, _, hv⟩ := ha.at1 (List.getElem?_eq_getElem hi)
  exact hv.len

theorem idxL_lt {α : Type} {l : List α} {i : Int} {x : α} (h : idxL l i = some x) : 0 ≤ i ∧ i.toNat < l.length ∧ l[i.toNat]? = some x := by
  unfold idxL at h
  split at h
  · exact ⟨by assumption, lt_at h, h⟩
  · cases h

/-- An element of a row, in memory. -/
theorem row_el {e : TypeId} {T : Ty} {l : List T.D} {id off n sz : Nat} (hr : SOR g H h (.row e T l) (.sl id off n sz)) {i : Int} {v : T.D} (hv : idxL l i = some v) :
    n = l.length ∧ sz = T.size ∧ ∃ c, h.get id = some (.cells c true 0 (some (e, false))) ∧ off + i.toNat * T.size + T.size ≤ c.length ∧ RepC g T ((c.drop (off + i.toNat * T.size)).take T.size) v := by
  rcases hr with ⟨e, _⟩ | ⟨id', off', c, xs, e, h1, h2, h3, h4⟩
  · cases e
  · cases e
    obtain ⟨_, k1, k2⟩ := idxL_lt hv
    obtain ⟨x, k3, k4⟩ := h4.at k2
    obtain ⟨k5, k6⟩ := seg_get h3 (all_len h4) h2 k3 k1
    exact ⟨rfl, rfl, c, h1, k5, by rw [k6]; exact k4⟩

theorem vload_ok (hm : m.real = true) {h0 : AH} {X : List Nat} {S : VS} (M : VMem h0 X g H S.os h) {t : TypeId} {a : SV} {K : SV → Option R} {r : R} (hk : vload P m S t a K = some r) {x : AV} (ha : SVR g H a x) :
    ∃ y s, aload P t x h = some y ∧ SVR g H s y ∧ K s = some r := by
  unfold vload at hk
  split at hk
  · rename_i k off
    obtain ⟨id, h1, e⟩ := ha
    cases e
    split at hk
    · rename_i t0 cs hos
      split at hk
      · rename_i s hs
        obtain ⟨id', c, e, h2, h3, h4⟩ := M.so k _ _ hos h1
        cases e
        obtain ⟨y, h5, h6⟩ := cellsAt_ok hs h4 h3
        exact ⟨y, s, by simp only [aload, h2]; exact h5, h6, hk⟩
      · cases hk
    · cases hk
  · rename_i T v o
    split at hk
    · rename_i s hs
      rcases ha with ⟨id, off, c, e, h1, h2, h3⟩ | ⟨id, off, c, e, h1, h2, h3⟩
      · cases e
        obtain ⟨_, _, _, h4⟩ := M.fz.1 _ _ h1
        obtain ⟨y, h5, h6⟩ := partAt_ok hs h2 h3
        exact ⟨y, s, by simp only [aload, h4]; exact h5, h6, hk⟩
      · cases e
        have h4 := M.fz.2 _ _ h1
        obtain ⟨y, h5, h6⟩ := partAt_ok hs h2 h3
        exact ⟨y, s, by simp only [aload, agload, h4, if_true]; exact h5, h6, hk⟩
    · cases hk
  · rename_i k i o
    split at hk
    · rename_i e T l hos
      obtain ⟨v, hv, hk⟩ := vbind_ok hm hk
      split at hk
      · rename_i s hs
        obtain ⟨h0, id, off, n, sz, h1, h2, e'⟩ := ha
        cases e'
        obtain ⟨rfl, rfl, c, h3, h4, h5⟩ := row_el (M.so k _ _ hos h1) hv
        obtain ⟨y, h6, h7⟩ := partAt_ok (off := off + i.toNat * T.size) hs h4 h5
        exact ⟨y, s, by simp only [aload, h3]; exact h6, h7, hk⟩
      · cases hk
    · cases hk
  · cases hk

theorem vfieldAddr_ok {t : TypeId} {a s : SV} {f : Nat} (hk : vfieldAddr P t a f = some s) {x : AV} (ha : SVR g H a x) : ∃ y, afieldAddr P t x f = some y ∧ SVR g H s y := by
  unfold vfieldAddr at hk
  split at hk
  · rename_i fs hfs
    split at hk
    · rename_i fd hfd
      split at hk
      · rename_i n hn
        split at hk
        · cases hk
        · rename_i hn0
          split at hk
          · rename_i k off
            cases hk
            obtain ⟨id, h1, e⟩ := ha
            cases e
            exact ⟨.ptr id (off + fd.offset), by simp only [afieldAddr, hfs, hfd, hn, if_neg hn0], id, h1, rfl⟩
          · rename_i T v o
            cases hk
            rcases ha with ⟨id, off, c, e, h1⟩ | ⟨id, off, c, e, h1⟩
            · cases e
              exact ⟨.ptr id (off + o + fd.offset), by simp only [afieldAddr, hfs, hfd, hn, if_neg hn0], .inl ⟨id, off, c, by rw [Nat.add_assoc], h1⟩⟩
            · cases e
              exact ⟨.val (.pointer (some ⟨id, off + o + fd.offset, none⟩)), by simp only [afieldAddr, hfs, hfd, hn, if_neg hn0], .inr ⟨id, off, c, by rw [Nat.add_assoc], h1⟩⟩
          · rename_i k i o
            cases hk
            obtain ⟨h0, id, off, n', sz, h1, h2, e⟩ := ha
            cases e
            exact ⟨.ptr id (off + i.toNat * sz + o + fd.offset), by simp only [afieldAddr, hfs, hfd, hn, if_neg hn0], h0, id, off, n', sz, h1, h2, by rw [Nat.add_assoc _ o]⟩
          · cases hk
      · cases hk
    · cases hk
  · cases hk

theorem vfield_ok {t : TypeId} {a s : SV} {f : Nat} (hk : vfield P t a f = some s) {x : AV} (ha : SVR g H a x) : ∃ y, afield P t x f = some y ∧ SVR g H s y := by
  unfold vfield at hk
  split at hk
  · rename_i fs hfs
    split at hk
    · rename_i fd hfd
      split at hk
      · rename_i cs
        split at hk
        · rename_i ho
          obtain ⟨xs, e, hx⟩ := ha
          cases e
          obtain ⟨y, h1, h2⟩ := cellsAt_ok hk ho hx
          exact ⟨y, by simp only [afield, hfs, hfd]; exact h1, h2⟩
        · cases hk
      · rename_i T v
        split at hk
        · rename_i hT
          obtain ⟨z, e, hz⟩ := ha
          cases e
          unfold RepV at hz
          rw [if_pos hT] at hz
          obtain ⟨cs, rfl, hc⟩ := hz
          have hl := hc.len
          obtain ⟨y, h1, h2⟩ := partAt_ok (H := H) (off := 0) (c := cs) hk (by omega) (by rw [List.drop_zero, List.take_of_length_le (by omega)]; exact hc)
          rw [Nat.zero_add] at h1
          exact ⟨y, by simp only [afield, hfs, hfd]; exact h1, h2⟩
        · cases hk
      · cases hk
    · cases hk
  · cases hk

theorem chkIdx_ok {n i : Int} {u : Unit} (h : chkIdx n i = some u) : 0 ≤ i ∧ i < n := ⟨chkIdx_lo h, chkIdx_hi h⟩

theorem vindexAddr_ok (hm : m.real = true) {h0 : AH} {X : List Nat} {S : VS} (M : VMem h0 X g H S.os h) {t : TypeId} {a i : SV} {lit : Option Nat} {K : SV → Option R} {r : R} (hk : vindexAddr P m S t a i lit K = some r) {x y : AV} (ha : SVR g H a x) (hi : SVR g H i y) :
    ∃ z s, aindexAddr P t x y = some z ∧ SVR g H s z ∧ K s = some r := by
  unfold vindexAddr at hk
  split at hk
  rotate_left
  · cases hk
  rename_i kd i
  rw [pvI hi]
  split at hk
  · rename_i e hu
    split at hk
    · rename_i k
      split at hk
      · rename_i e' T l hos
        split at hk
        · rename_i hs
          obtain ⟨v, hv, hk⟩ := vbind_ok hm hk
          obtain ⟨z, h1, e, h2⟩ := ha
          cases e
          obtain ⟨k0, k1, k2⟩ := idxL_lt hv
          have hso := M.so k _ _ hos h1
          rcases h2 with rfl | ⟨id, off, n, sz, rfl⟩
          · rcases hso with ⟨_, rfl⟩ | ⟨_, _, _, _, e, _⟩
            · simp at k1
            · cases e
          · obtain ⟨rfl, rfl, _⟩ := row_el hso hv
            refine ⟨.ptr id (off + i.toNat * T.size), .ept k i 0, ?_, ⟨k0, id, off, _, _, h1, by omega, rfl⟩, hk⟩
            simp only [aindexAddr, hu, hs]
            rw [if_pos ⟨trivial, k0, by omega⟩]
        · cases hk
      · cases hk
    · rename_i k a b
      split at hk
      · rename_i e' T l hos
        split at hk
        · rename_i hs
          obtain ⟨v, hv, hk⟩ := vbind_ok hm hk
          obtain ⟨c1, c2⟩ := chkIdx_ok hv
          rw [oMi_eq] at c2
          obtain ⟨p1, p2, ⟨id, off, n, sz, h1, h2, e⟩ | ⟨_, p3, p4, _⟩⟩ := ha
          rotate_left
          · omega
          cases e
          have hso := M.so k _ _ hos h1
          rcases hso with ⟨e, _⟩ | ⟨id', off', c, xs, e, q1, q2, q3, q4⟩
          · cases e
          · cases e
            refine ⟨.ptr id (off + a.toNat * T.size + i.toNat * T.size), .ept k (a + i) 0, ?_, ⟨by omega, id, off, _, _, h1, by omega, ?_⟩, hk⟩
            · simp only [aindexAddr, hu, hs]
              rw [if_pos ⟨trivial, c1, by omega⟩]
            · rw [Int.toNat_add p1 c1, Nat.add_mul]; simp only [Nat.add_assoc, Nat.add_zero]
        · cases hk
      · cases hk
    · rename_i T l
      split at hk
      · rename_i hs
        obtain ⟨v, hv, hk⟩ := vbind_ok hm hk
        obtain ⟨k0, k1, k2⟩ := idxL_lt hv
        have ha := pvR rfl ha
        obtain ⟨z, e, hz⟩ := ha
        cases e
        rcases hz with ⟨rfl, rfl⟩ | ⟨id, off, rfl, rfl | ⟨c, xs, q1, q2, q3, q4⟩⟩
        · simp at k1
        · simp at k1
        · obtain ⟨w, k3, k4⟩ := q4.at k2
          obtain ⟨k5, k6⟩ := seg_get q3 (all_len q4) q2 k3 k1
          refine ⟨.ptr id (off + i.toNat * T.size), .fpt T v 0, ?_, .inl ⟨id, off + i.toNat * T.size, c, rfl, q1, k5, by rw [k6]; exact k4⟩, hk⟩
          simp only [aindexAddr, hu, hs.1]
          rw [if_pos ⟨trivial, k0, by omega⟩]
      · cases hk
    · cases hk
  · rename_i n e hu
    split at hk
    · rename_i gn T l
      split at hk
      · rename_i hs
        obtain ⟨v, hv, hk⟩ := vbind_ok hm hk
        obtain ⟨k0, k1, k2⟩ := idxL_lt hv
        obtain ⟨e', xs, q1, q2⟩ := ha
        cases e'
        obtain ⟨w, k3, k4⟩ := q2.at k2
        have hl := all_len q2
        have hfl := flat_len hl
        have hln := q2.len
        obtain ⟨k5, k6⟩ := seg_get (c := xs.flatten) (off := 0) (n := xs.length) (sz := T.size) (xs := xs) (by rw [List.drop_zero, List.take_of_length_le (by omega)]) hl (by omega) k3 (by omega)
        refine ⟨.val (.pointer (some ⟨gn, 0 + i.toNat * T.size, none⟩)), .fpt T v 0, ?_, .inr ⟨gn, 0 + i.toNat * T.size, xs.flatten, rfl, q1, k5, by rw [k6]; exact k4⟩, hk⟩
        simp only [aindexAddr, hu, hs.1]
        rw [if_pos ⟨k0, by have := hs.2; omega⟩]
      · cases hk
    · rename_i k off
      split at hk
      · rename_i j s hs
        split at hk
        · rename_i hj
          obtain ⟨id, h1, e'⟩ := ha
          cases e'
          obtain ⟨hj1, rfl⟩ := hj
          refine ⟨.ptr id (off + j * s), .ptr k (off + j * s), ?_, ⟨id, h1, rfl⟩, hk⟩
          simp only [aindexAddr, hu, hs]
          rw [if_pos ⟨by omega, by omega⟩]; simp
        · cases hk
      · cases hk
    · cases hk
  · cases hk

theorem vindex_ok (hm : m.real = true) {t : TypeId} {a i : SV} {K : SV → Option R} {r : R} (hk : vindex P m t a i K = some r) {x y : AV} (ha : SVR g H a x) (hi : SVR g H i y) :
    ∃ z s, aindex P t x y = some z ∧ SVR g H s z ∧ K s = some r := by
  unfold vindex at hk
  split at hk
  · rename_i kd i
    rw [pvI hi]
    split at hk
    · rename_i hu
      obtain ⟨z, hz, hk⟩ := vbind_ok hm hk
      rw [pvS ha]
      exact ⟨_, _, idx_str hu hz, int_pv _ _, hk⟩
    · cases hk
  · cases hk
end
end Go.Proofs.YtlpiiifmidehjaaDoorM
