/- The value machine: slices read, composites, maps looked up. -/
import Derived.Test.YtlpiiifmidehjaaDoorV4
set_option linter.unusedSimpArgs false
set_option linter.unusedVariables false
namespace Go.Proofs.YtlpiiifmidehjaaDoorM
open Go Go.RowKit

/-! ### Slices -/
def chkSub (n a b : Int) : Option Unit := if 0 ≤ a ∧ a ≤ b ∧ b ≤ n then some () else none
theorem chkSub_ok {n a b : Int} {u : Unit} (h : chkSub n a b = some u) : 0 ≤ a ∧ a ≤ b ∧ b ≤ n := by unfold chkSub at h; split at h <;> simp_all
theorem subL_ok {α : Type} {l r : List α} {a b : Int} (h : subL l a b = some r) : 0 ≤ a ∧ a ≤ b ∧ b ≤ l.length ∧ r = (l.take b.toNat).drop a.toNat := by
  unfold subL at h; split at h
  · rename_i hh; cases h; exact ⟨hh.1, hh.2.1, hh.2.2, rfl⟩
  · cases h

/-- The elements of a slice. -/
def lstOf (S : VS) (T : Ty) : SV → Option (List T.D)
  | .row k => match S.os[k]? with
    | some (some (.row _ T' l)) => asT (.lst T') (.lst T) l
    | _ => none
  | .view k a b => match S.os[k]? with
    | some (some (.row _ T' l)) => asT (.lst T') (.lst T) (oTD l a b)
    | _ => none
  | .pv t v => asT t (.lst T) v
  | .con (.val (.slice none 0 0)) => some []
  | _ => none

def bndS (d : Int) : Option SV → Option Int
  | none => some d
  | some (.pv (.int _) n) => some n
  | _ => none

section
variable {R : Type}
def vslice (P : Program) (m : Md R) (S : VS) (t : TypeId) (a : SV) (lo hi : Option SV) (K : SV → Option R) : Option R :=
  match P.underlying t with
  | some .string => match a with
    | .pv .str l => match bndS 0 lo, bndS (oLen l) hi with
      | some i, some j => vbind m ([] : List UInt8) (subS l i j) fun r => K (.pv .str r)
      | _, _ => none
    | _ => none
  | some (.slice e) => match a with
    | .pv (.lst T) l => match bndS 0 lo, bndS (oLen l) hi with
      | some i, some j => if szOf P e = some T.size then vbind m ([] : List T.D) (subL l i j) fun r => K (.pv (.lst T) r) else none
      | _, _ => none
    | .row k => match S.os[k]? with
      | some (some (.row _ T l)) => match bndS 0 lo, bndS (oLen l) hi with
        | some i, some j => if szOf P e = some T.size then vbind m () (chkSub (oLen l) i j) fun _ => K (.view k i j) else none
        | _, _ => none
      | _ => none
    | .view k a b => match S.os[k]? with
      | some (some (.row _ T l)) => match bndS 0 lo, bndS (oMi b a) hi with
        | some i, some j => if szOf P e = some T.size then vbind m () (chkSub (oMi b a) i j) fun _ => K (.view k (oPl a i) (oPl a j)) else none
        | _, _ => none
      | _ => none
    | .con (.val (.slice none 0 0)) => match bndS 0 lo, bndS 0 hi with
      | some i, some j => match szOf P e with
        | some _ => vbind m () (chkSub 0 i j) fun _ => K (.con nilS)
        | none => none
      | _, _ => none
    | _ => none
  | _ => none

def vlen (P : Program) (S : VS) (t : TypeId) (a : SV) : Option SV :=
  match P.underlying t with
  | some .string => match a with
    | .pv .str l => some (.pv (.int .i64) (oLen l))
    | _ => none
  | some (.array n _) => some (.pv (.int .i64) (n : Int))
  | some (.slice _) => match a with
    | .pv (.lst T) l => some (.pv (.int .i64) (oLen l))
    | .row k => match S.os[k]? with
      | some (some (.row _ T l)) => some (.pv (.int .i64) (oLen l))
      | _ => none
    | .view _ a b => some (.pv (.int .i64) (oMi b a))
    | .con (.val (.slice none 0 0)) => some (.pv (.int .i64) (0 : Int))
    | _ => none
  | some (.map _ _) => match a with
    | .mp k => match S.os[k]? with
      | some (some (.map _ _ mm)) => some (.pv (.int .i64) (oLen mm.es))
      | _ => none
    | .con (.val (.map none)) => some (.pv (.int .i64) (0 : Int))
    | _ => none
  | _ => none

def vconv (P : Program) (S : VS) (s d : TypeId) (a : SV) : Option SV :=
  match P.underlying s, P.underlying d with
  | some _, some (.int k) => match a with
    | .pv (.int _) n => some (.pv (.int k) (oWrap k n))
    | _ => none
  | some ds, some .string => match a with
    | .pv (.int _) n => some (.pv .str (oEnc n))
    | .pv .str l => some (.pv .str l)
    | a => match ds with
      | .slice e => match P.underlying e, lstOf S (.int .u8) a with
        | some (.int .u8), some l => some (.pv .str (oByt l))
        | _, _ => none
      | _ => none
  | _, _ => none
end

/-! ### Cells spliced -/
def SV.spl (c : SV) (off : Nat) (xs : SV) : SV := (c.tk off).app (xs.app (c.drp (off + xs.len)))
def partsS (place : Nat → Option (Nat × Nat)) : List (Nat × SV) → Option (List (Nat × Nat × SV))
  | [] => some []
  | (i, x) :: rest => match place i, cellsSV x, partsS place rest with
    | some (off, size), some xs, some r => some ((off, size, xs) :: r)
    | _, _, _ => none
def fillS (c : SV) : List (Nat × Nat × SV) → Option SV
  | [] => some c
  | (off, size, xs) :: rest => if xs.len = size ∧ off + size ≤ c.len then fillS (c.spl off xs) rest else none
def zeroS (P : Program) (t : TypeId) : Option SV := ((P.info? t).bind (·.zero)).bind fun z => cellsSV (litSV z)
def vbuild (P : Program) (t : TypeId) (parts : List (Nat × SV)) : Option SV :=
  match zeroS P t, P.underlying t with
  | some z, some (.struct fs) => match placesOf P fs.toList with
    | some pl => match partsS (fun i => pl[i]?) parts with
      | some ps => (fillS z ps).map fun c => normA P t (.agg c)
      | none => none
    | none => none
  | some z, some (.array _ e) => match szOf P e with
    | some size => match partsS (fun i => some (i * size, size)) parts with
      | some ps => (fillS z ps).map fun c => normA P t (.agg c)
      | none => none
    | none => none
  | _, _ => none

/-! ### Maps -/
def KeyOk (d : Option TypeDesc) (kt : Ty) : Bool :=
  match d, kt with
  | some (.int _), .int _ => true
  | some .string, .str => true
  | some .bool, .bool => true
  | _, _ => false
def idxT : (kt : Ty) → {α : Type} → kt.D → List (kt.D × α × Nat) → Option (Option (Nat × α × Nat))
  | .int _, _, k, es => some (GMap.idx (κ := Int) k es 0)
  | .str, _, k, es => some (GMap.idx (κ := List UInt8) k es 0)
  | .bool, _, k, es => some (GMap.idx (κ := Bool) k es 0)
  | _, _, _, _ => none
def mgetT : (kt : Ty) → {α : Type} → GMap kt.D α → kt.D → Option α
  | .int _, _, m, k => mget (κ := Int) m k
  | .str, _, m, k => mget (κ := List UInt8) m k
  | .bool, _, m, k => mget (κ := Bool) m k
  | _, _, _, _ => none
def msetT : (kt : Ty) → {α : Type} → GMap kt.D α → kt.D → α → GMap kt.D α
  | .int _, _, m, k, v => mset (κ := Int) m k v
  | .str, _, m, k, v => mset (κ := List UInt8) m k v
  | .bool, _, m, k, v => mset (κ := Bool) m k v
  | _, _, m, _, _ => m
/-- The zero of a plain type. -/
def zeroT (P : Program) (t : TypeId) (T : Ty) : Option T.D := ((P.info? t).bind (·.zero)).bind fun z => toT T (litSV z)

def vlookup {R : Type} (P : Program) (S : VS) (t : TypeId) (a k : SV) (ok : Bool) (K : SV → Option R) : Option R :=
  match mapOf P t with
  | some (kt, et) => match a with
    | .mp n => match S.os[n]? with
      | some (some (.map Kt Et mm)) => match toC Kt k, zeroT P et Et with
        | some kv, some z => if KeyOk (P.underlying kt) Kt then
            (if ok then K (.tup (.cn (.pv Et (oGetD (mgetT Kt mm kv) z)) (.cn (.pv .bool (oIsSome (mgetT Kt mm kv))) .nl))) else K (.pv Et (oGetD (mgetT Kt mm kv) z))) else none
        | _, _ => none
      | _ => none
    | _ => none
  | none => none

section
variable {R : Type} {m : Md R} {P : Program} {g : FM} {H : List AV} {env : List AV} {h h0 : AH} {X : List Nat} {S : VS}

theorem seg_sub {c : List AV} {off sz n : Nat} {xs : List (List AV)} (hx : ∀ x ∈ xs, x.length = sz) (hn : xs.length = n) (hs : (c.drop off).take (n * sz) = xs.flatten) {a b : Nat} (hab : a ≤ b) (hb : b ≤ n) :
    (c.drop (off + a * sz)).take ((b - a) * sz) = ((xs.take b).drop a).flatten := by
  rw [drop_flat (fun x hx' => hx x (List.mem_of_mem_take hx')), take_flat hx, ← hs, List.take_take, List.drop_take, List.drop_drop, Nat.sub_mul, Nat.min_eq_left (Nat.mul_le_mul_right _ hb)]

theorem row_ro {e : TypeId} {T : Ty} {l : List T.D} {x : AV} (hr : SOR g H h (.row e T l) x) : ∃ xs, All2 (RepC g T) xs l ∧ RO T.size x h xs := by
  rcases hr with ⟨rfl, rfl⟩ | ⟨id, off, c, xs, rfl, h1, h2, h3, h4⟩
  · exact ⟨[], trivial, fun x hx => (by cases hx), .inl ⟨rfl, rfl⟩⟩
  · have hl := h4.len
    exact ⟨xs, h4, all_len h4, .inr (.inl ⟨id, off, c, _, _, _, by rw [hl], h1, by rw [hl]; exact h2, by rw [hl]; exact h3⟩)⟩

theorem lst_ro (hf : g.ok h) {T : Ty} {x : AV} {l : List T.D} (hr : LR g (RepC g T) T.size x l) : ∃ xs, All2 (RepC g T) xs l ∧ RO T.size x h xs := by
  rcases hr with ⟨rfl, rfl⟩ | ⟨id, off, rfl, rfl | ⟨c, xs, h1, h2, h3, h4⟩⟩
  · exact ⟨[], trivial, fun x hx => (by cases hx), .inl ⟨rfl, rfl⟩⟩
  · exact ⟨[], trivial, fun x hx => (by cases hx), .inr (.inr ⟨rfl, id, off, rfl⟩)⟩
  · have hl := h4.len
    obtain ⟨_, _, _, hg⟩ := hf.1 _ _ h1
    exact ⟨xs, h4, all_len h4, .inr (.inl ⟨id, off, c, _, _, _, by rw [hl], hg, by rw [hl]; exact h2, by rw [hl]; exact h3⟩)⟩

theorem asL_ok {T T' : Ty} {l : List T'.D} {r : List T.D} (h : asT (.lst T') (.lst T) l = some r) : ∃ e : T' = T, r = castD (congrArg Ty.lst e) (l : (Ty.lst T').D) := by
  unfold asT at h
  split at h
  · rename_i e
    cases e
    cases h
    exact ⟨rfl, rfl⟩
  · cases h

theorem lstOf_ro (M : VMem h0 X g H S.os h) {T : Ty} {s : SV} {l : List T.D} (hl : lstOf S T s = some l) {x : AV} (hr : SVR g H s x) : ∃ xs, All2 (RepC g T) xs l ∧ RO T.size x h xs := by
  unfold lstOf at hl
  split at hl
  · rename_i k
    obtain ⟨y, h1, e, _⟩ := hr
    cases e
    split at hl
    · rename_i e T' l' hos
      obtain ⟨rfl, rfl⟩ := asL_ok hl
      exact row_ro (M.so k _ _ hos h1)
    · cases hl
  · rename_i k a b
    obtain ⟨h1, h2, h3⟩ := hr
    split at hl
    · rename_i e T' l' hos
      obtain ⟨rfl, rfl⟩ := asL_ok hl
      show ∃ xs, All2 (RepC g T') xs ((l'.take b.toNat).drop a.toNat) ∧ RO T'.size x h xs
      rcases h3 with ⟨id, off, n, sz, k1, k2, e'⟩ | ⟨k1, rfl, rfl, e'⟩
      · cases e'
        rcases M.so k _ _ hos k1 with ⟨e, _⟩ | ⟨id', off', c, xs, e, q1, q2, q3, q4⟩
        · cases e
        · cases e
          have hln := q4.len
          have hall := all_len q4
          refine ⟨(xs.take b.toNat).drop a.toNat, (q4.take _).drop _, fun y hy => hall y (List.mem_of_mem_take (List.mem_of_mem_drop hy)), .inr (.inl ⟨id, off + a.toNat * T'.size, c, _, _, _, ?_, q1, ?_, ?_⟩)⟩
          · rw [List.length_drop, List.length_take, Nat.min_eq_left (by omega)]
          · rw [List.length_drop, List.length_take, Nat.min_eq_left (by omega), Nat.sub_mul]
            have : b.toNat * T'.size ≤ l'.length * T'.size := Nat.mul_le_mul_right _ (by omega)
            have : a.toNat * T'.size ≤ b.toNat * T'.size := Nat.mul_le_mul_right _ (by omega)
            omega
          · rw [List.length_drop, List.length_take, Nat.min_eq_left (by omega)]
            exact seg_sub hall hln q3 (by omega) (by omega)
      · cases e'
        simp only [Int.toNat_zero, List.take_zero, List.drop_zero]
        exact ⟨[], trivial, fun x hx => (by cases hx), .inl ⟨rfl, rfl⟩⟩
    · cases hl
  · rename_i t v
    unfold asT at hl
    split at hl
    · rename_i e
      subst e
      cases hl
      obtain ⟨y, e, hz⟩ := pvR rfl hr
      cases e
      exact lst_ro M.fz hz
    · cases hl
  · cases hl
    cases hr
    exact ⟨[], trivial, fun x hx => (by cases hx), .inl ⟨rfl, rfl⟩⟩
  · cases hl

def OptR (g : FM) (H : List AV) : Option SV → Option AV → Prop
  | none, none => True
  | some s, some x => SVR g H s x
  | _, _ => False

theorem bndS_ok {d : Nat} {o : Option SV} {n : Int} (hb : bndS d o = some n) {x : Option AV} (hr : OptR g H o x) (hn : 0 ≤ n) : abound d x = some n.toNat := by
  unfold bndS at hb
  split at hb
  · cases hb
    cases x with
    | none => simp [abound]
    | some x => exact hr.elim
  · cases hb
    cases x with
    | none => exact hr.elim
    | some x => rw [pvI hr]; simp [abound, hn]
  · cases hb

theorem bytes_rep {xs : List (List AV)} {l : List Int} (h : All2 (RepC g (.int .u8)) xs l) : xs = l.map (cellI .u8) := by
  induction l generalizing xs with
  | nil => cases xs with
    | nil => rfl
    | cons a as => exact h.elim
  | cons b l ih => cases xs with
    | nil => exact h.elim
    | cons a as =>
      obtain ⟨h1, h2⟩ := h
      rw [List.map_cons, ← ih h2]
      have : a = [.int .u8 b] := h1
      rw [this]; rfl

theorem vslice_ok (hm : m.real = true) (M : VMem h0 X g H S.os h) {t : TypeId} {a : SV} {lo hi : Option SV} {K : SV → Option R} {r : R} (hk : vslice P m S t a lo hi K = some r) {x : AV} {lo' hi' : Option AV} (ha : SVR g H a x) (hlo : OptR g H lo lo') (hhi : OptR g H hi hi') :
    ∃ y s, aslice P t x lo' hi' none h = some y ∧ SVR g H s y ∧ K s = some r := by
  unfold vslice at hk
  split at hk
  · rename_i hu
    split at hk
    · rename_i l
      rw [pvS ha]
      split at hk
      · rename_i i j hi1 hj1
        obtain ⟨z, hz, hq⟩ := vbind_ok hm hk
        have hz0 := hz
        unfold subS at hz
        split at hz
        · rename_i hc
          cases hz
          refine ⟨_, _, ?_, str_pv _, hq⟩
          simp only [aslice, hu, bndS_ok (d := 0) hi1 hlo hc.1, bndS_ok hj1 hhi (by omega)]
          rw [if_pos ⟨by omega, by omega⟩]
        · cases hz
      · cases hk
    · cases hk
  · rename_i e hu
    split at hk
    · rename_i T l
      split at hk
      · rename_i i j hi1 hj1
        split at hk
        · rename_i hs
          obtain ⟨z, hz, hq⟩ := vbind_ok hm hk
          obtain ⟨c1, c2, c3, rfl⟩ := subL_ok hz
          have b1 := bndS_ok (d := 0) hi1 hlo c1
          have b2 := bndS_ok hj1 hhi (by omega)
          obtain ⟨y, e', hy⟩ := pvR rfl ha
          cases e'
          rcases hy with ⟨rfl, rfl⟩ | ⟨id, off, rfl, hy⟩
          · simp only [List.length_nil] at c3 b2
            have e1 : i = 0 := by omega
            have e2 : j = 0 := by omega
            subst e1; subst e2
            refine ⟨nilS, .pv (.lst T) _, ?_, ⟨_, rfl, _, rfl, .inl ⟨rfl, by simp⟩⟩, hq⟩
            simp only [aslice, hu, hs, b1, b2]
            rfl
          · refine ⟨.sl id (off + i.toNat * T.size) (j.toNat - i.toNat) T.size, .pv (.lst T) _, ?_, ⟨_, rfl, _, rfl, .inr ⟨id, off + i.toNat * T.size, ?_, ?_⟩⟩, hq⟩
            · simp only [aslice, hu, hs, b1, b2]
              rw [if_pos ⟨trivial, by omega, by omega⟩]
            · rw [List.length_drop, List.length_take, Nat.min_eq_left (by omega)]
            · rcases hy with rfl | ⟨c, xs, q1, q2, q3, q4⟩
              · left; simp
              · right
                have hln := q4.len
                have hall := all_len q4
                refine ⟨c, (xs.take j.toNat).drop i.toNat, q1, ?_, ?_, (q4.take _).drop _⟩
                · rw [List.length_drop, List.length_take, Nat.min_eq_left (by omega), Nat.sub_mul]
                  have : j.toNat * T.size ≤ l.length * T.size := Nat.mul_le_mul_right _ (by omega)
                  have : i.toNat * T.size ≤ j.toNat * T.size := Nat.mul_le_mul_right _ (by omega)
                  omega
                · rw [List.length_drop, List.length_take, Nat.min_eq_left (by omega)]
                  exact seg_sub hall hln q3 (by omega) (by omega)
        · cases hk
      · cases hk
    · rename_i k
      split at hk
      · rename_i e' T l hos
        split at hk
        · rename_i i j hi1 hj1
          split at hk
          · rename_i hs
            obtain ⟨z, hz, hq⟩ := vbind_ok hm hk
            obtain ⟨c1, c2, c3⟩ := chkSub_ok hz
            rw [oLen_eq] at c3
            have b1 := bndS_ok (d := 0) hi1 hlo c1
            have b2 := bndS_ok hj1 hhi (by omega)
            obtain ⟨y, h1, e', hsh⟩ := ha
            cases e'
            rcases M.so k _ _ hos h1 with ⟨rfl, rfl⟩ | ⟨id, off, c, xs, rfl, q1, q2, q3, q4⟩
            · simp only [List.length_nil] at c3 b2
              have e1 : i = 0 := by omega
              have e2 : j = 0 := by omega
              subst e1; subst e2
              refine ⟨nilS, .view k 0 0, ?_, ⟨by omega, by omega, .inr ⟨h1, rfl, rfl, rfl⟩⟩, hq⟩
              simp only [aslice, hu, hs, b1, b2]
              rfl
            · refine ⟨.sl id (off + i.toNat * T.size) (j.toNat - i.toNat) T.size, .view k i j, ?_, ⟨c1, c2, .inl ⟨id, off, _, _, h1, c3, rfl⟩⟩, hq⟩
              simp only [aslice, hu, hs, b1, b2]
              rw [if_pos ⟨trivial, by omega, by omega⟩]
          · cases hk
        · cases hk
      · cases hk
    · rename_i k a b
      split at hk
      · rename_i e' T l hos
        split at hk
        · rename_i i j hi1 hj1
          split at hk
          · rename_i hs
            obtain ⟨z, hz, hq⟩ := vbind_ok hm hk
            obtain ⟨c1, c2, c3⟩ := chkSub_ok hz
            rw [oMi_eq] at c3
            obtain ⟨p1, p2, ⟨id, off, n, sz, h1, h2, e⟩ | ⟨h1, rfl, rfl, e⟩⟩ := ha
            · cases e
              have hj1' : bndS ((b.toNat - a.toNat : Nat) : Int) hi = some j := by rw [← hj1]; congr 1; rw [oMi_eq]; omega
              have b1 := bndS_ok (d := 0) hi1 hlo c1
              have b2 := bndS_ok hj1' hhi (by omega)
              rcases M.so k _ _ hos h1 with ⟨e, _⟩ | ⟨id', off', c, xs, e, q1, q2, q3, q4⟩
              · cases e
              · cases e
                refine ⟨.sl id (off + a.toNat * T.size + i.toNat * T.size) (j.toNat - i.toNat) T.size, .view k (a + i) (a + j), ?_, ⟨by omega, by omega, .inl ⟨id, off, _, _, h1, by omega, ?_⟩⟩, hq⟩
                · simp only [aslice, hu, hs, b1, b2]
                  rw [if_pos ⟨trivial, by omega, by omega⟩]
                · rw [Int.toNat_add p1 c1, Int.toNat_add p1 (by omega), Nat.add_mul]
                  congr 2
                  · omega
                  · omega
            · cases e
              have e1 : i = 0 := by omega
              have e2 : j = 0 := by omega
              subst e1; subst e2
              have b1 := bndS_ok (d := 0) hi1 hlo (by omega)
              have b2 := bndS_ok (d := 0) hj1 hhi (by omega)
              refine ⟨nilS, .view k (0 + 0) (0 + 0), ?_, ⟨by omega, by omega, .inr ⟨h1, rfl, rfl, rfl⟩⟩, hq⟩
              simp only [aslice, hu, hs, b1, b2]
              rfl
          · cases hk
        · cases hk
      · cases hk
    · split at hk
      · rename_i i j hi1 hj1
        split at hk
        · rename_i s hs
          obtain ⟨z, hz, hq⟩ := vbind_ok hm hk
          obtain ⟨c1, c2, c3⟩ := chkSub_ok hz
          cases ha
          have e1 : i = 0 := by omega
          have e2 : j = 0 := by omega
          subst e1; subst e2
          have b1 := bndS_ok (d := 0) hi1 hlo (by omega)
          have b2 := bndS_ok (d := 0) hj1 hhi (by omega)
          refine ⟨nilS, .con nilS, ?_, rfl, hq⟩
          simp only [aslice, hu, hs, b1, b2]
          rfl
        · cases hk
      · cases hk
    · cases hk
  · cases hk

theorem vlen_ok (M : VMem h0 X g H S.os h) {t : TypeId} {a s : SV} (hk : vlen P S t a = some s) {x : AV} (ha : SVR g H a x) : ∃ y, alenOf P t x h = some y ∧ SVR g H s y := by
  have ro : ∀ {e : TypeId} {T : Ty} {l : List T.D} {xs : List (List AV)}, P.underlying t = some (.slice e) → All2 (RepC g T) xs l → RO T.size x h xs → alenOf P t x h = some (.int .i64 (l.length : Int)) := fun {e T l xs} hu h1 h2 => by
    have hl := h1.len
    rcases h2.2 with ⟨rfl, rfl⟩ | ⟨id, off, c, o, f, ty, rfl, hg, _⟩ | ⟨rfl, id, off, rfl⟩
    · simp [alenOf, hu, ← hl]
    · simp [alenOf, hu, ← hl]
    · simp [alenOf, hu, ← hl]
  unfold vlen at hk
  split at hk
  · rename_i hu
    split at hk
    · cases hk; rw [pvS ha]; exact ⟨_, by simp only [alenOf, hu], int_pv _ _⟩
    · cases hk
  · rename_i n e hu
    cases hk; exact ⟨_, by simp only [alenOf, hu], int_pv _ _⟩
  · rename_i e hu
    split at hk
    · rename_i T l
      cases hk
      obtain ⟨y, e', hy⟩ := pvR rfl ha
      cases e'
      obtain ⟨xs, h1, h2⟩ := lst_ro M.fz hy
      exact ⟨_, ro hu h1 h2, int_pv _ _⟩
    · rename_i k
      split at hk
      · rename_i e' T l hos
        cases hk
        obtain ⟨y, h1, e', hsh⟩ := ha
        cases e'
        obtain ⟨xs, h1, h2⟩ := row_ro (M.so k _ _ hos h1)
        exact ⟨_, ro hu h1 h2, int_pv _ _⟩
      · cases hk
    · rename_i k a b
      cases hk
      obtain ⟨p1, p2, ⟨id, off, n, sz, h1, h2, e⟩ | ⟨h1, rfl, rfl, e⟩⟩ := ha
      · cases e
        exact ⟨.int .i64 (b - a), by simp only [alenOf, hu]; congr 2; omega, int_pv _ _⟩
      · cases e; exact ⟨.int .i64 (0 - 0), by simp [alenOf, hu], int_pv _ _⟩
    · cases hk; cases ha; exact ⟨.int .i64 0, by simp [alenOf, hu], int_pv _ _⟩
    · cases hk
  · rename_i kt et hu
    split at hk
    · rename_i k
      split at hk
      · rename_i Kt Et mm hos
        cases hk
        obtain ⟨id, h1, e⟩ := ha
        cases e
        obtain ⟨id', es, e, h2, h3⟩ := M.so k _ _ hos h1
        cases e
        refine ⟨.int .i64 (mm.es.length : Int), ?_, int_pv _ _⟩
        simp only [alenOf, hu, amaplen, amapGet, h2, Option.map_some, h3.len]
        rfl
      · cases hk
    · cases hk; cases ha; exact ⟨.int .i64 0, by simp [alenOf, hu, amaplen, amapGet], int_pv _ _⟩
    · cases hk
  · cases hk

theorem vconv_ok (M : VMem h0 X g H S.os h) {s d : TypeId} {a b : SV} (hk : vconv P S s d a = some b) {x : AV} (ha : SVR g H a x) : ∃ y, aconv P s d x h = some (y, h) ∧ SVR g H b y := by
  unfold vconv at hk
  split at hk
  · rename_i ds k hs hd
    split at hk
    · cases hk; rw [pvI ha]; exact ⟨_, by simp only [aconv, hs, hd], int_pv _ _⟩
    · cases hk
  · rename_i ds hs hd
    split at hk
    · cases hk; rw [pvI ha]; exact ⟨_, by simp only [aconv, hs, hd], str_pv _⟩
    · cases hk; rw [pvS ha]; exact ⟨_, by simp only [aconv, hs, hd], str_pv _⟩
    · split at hk
      · rename_i e _ _
        split at hk
        · rename_i l he hl
          cases hk
          obtain ⟨xs, h1, h2⟩ := lstOf_ro M hl ha
          obtain rfl := bytes_rep h1
          exact ⟨_, RO.str hs he hd h2, str_pv _⟩
        · cases hk
      · cases hk
  · cases hk
end
end Go.Proofs.YtlpiiifmidehjaaDoorM
