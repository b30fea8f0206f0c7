/- The value machine: slices that are written out or made; maps written; letters of a text. -/
import Derived.Test.YtlpiiifmidehjaaDoorV8
set_option linter.unusedSimpArgs false
set_option linter.unusedVariables false
namespace Go.Proofs.YtlpiiifmidehjaaDoorM
open Go Go.RowKit

/-! ### Maps that are written -/
section
variable {R : Type}
def vmakeMap (P : Program) (S : VS) (t : TypeId) (K : VS → SV → Option R) : Option R :=
  match mapOf P t with
  | some (kt, et) => match tyOf P kt, tyOf P et with
    | some Kt, some Et => K ⟨S.ts, S.os ++ [some (.map Kt Et ⟨[], 0⟩)]⟩ (.mp S.os.length)
    | _, _ => none
  | none => none
def vmapSet (P : Program) (S : VS) (t : TypeId) (a k v : SV) (K : VS → SV → Option R) : Option R :=
  match mapOf P t with
  | some (kt, et) => match a, tyOf P et with
    | .mp n, some Et => vpv S Et v fun S1 vv => match S1.os[n]? with
      | some (some (.map Kt Et' mm)) => match toC Kt k, asT Et Et' vv with
        | some kv, some vv => if KeyOk (P.underlying kt) Kt = true then K ⟨S1.ts, S1.os.set n (some (.map Kt Et' (msetT Kt mm kv vv)))⟩ .un else none
        | _, _ => none
      | _ => none
    | _, _ => none
  | none => none
/-- An entry to be changed: the map with it, what it holds, its number. -/
def mentT (Kt Et : Ty) (mm : GMap Kt.D Et.D) (k : Kt.D) (z : Et.D) : GMap Kt.D Et.D × Et.D := ((match mgetT Kt mm k with | some _ => mm | none => msetT Kt mm k z), (mgetT Kt mm k).getD z)
def bornOf (Kt : Ty) {α : Type} (mm : GMap Kt.D α) (k : Kt.D) : Nat := match idxT Kt k mm.es with | some (some (_, _, b)) => b | _ => mm.clock
end

section
variable {R : Type} {m : Md R} {P : Program} {g g' : FM} {H : List AV} {env : List AV} {h h0 h' : AH} {X : List Nat} {S : VS}

theorem toL_ok {T : Ty} : ∀ {s : SV} {l : List T.D} {xs : List AV}, toL T s = some l → SVL g H s xs → All2 (RepV g T) xs l
  | .nl, l, xs, h, hr => by cases h; cases hr; trivial
  | .cn a b, l, xs, h, hr => by
    unfold toL at h
    split at h
    · rename_i x l' h1 h2
      cases h
      obtain ⟨y, ys, rfl, k1, k2⟩ := hr
      exact ⟨toT_ok h1 k1, toL_ok h2 k2⟩
    · cases h
  | .dead, _, _, h, _ => by cases h
  | .un, _, _, h, _ => by cases h
  | .con _, _, _, h, _ => by cases h
  | .kb _, _, _, h, _ => by cases h
  | .pv _ _, _, _, h, _ => by cases h
  | .ptr _ _, _, _, h, _ => by cases h
  | .row _, _, _, h, _ => by cases h
  | .view _ _ _, _, _, h, _ => by cases h
  | .ept _ _ _, _, _, h, _ => by cases h
  | .fpt _ _ _, _, _, h, _ => by cases h
  | .gpt _ _ _, _, _, h, _ => by cases h
  | .mp _, _, _, h, _ => by cases h
  | .fn _ _ _, _, _, h, _ => by cases h
  | .ifc _ _, _, _, h, _ => by cases h
  | .tup _, _, _, h, _ => by cases h
  | .agg _, _, _, h, _ => by cases h

theorem frzL_okL : ∀ {ks : List Nat} {g : FM} {S : VS} {s : SV} {xs : List AV}, VMem h0 X g H S.os h → EnvR g H S.ts env → SVL g H s xs →
    ∃ g', g.le g' ∧ VMem h0 X g' H (frzL S s ks).1.os h ∧ EnvR g' H (frzL S s ks).1.ts env ∧ SVL g' H (frzL S s ks).2 xs
  | [], g, S, s, x, M, E, hr => ⟨g, FM.le.refl g, M, E, hr⟩
  | k :: ks, g, S, s, x, M, E, hr => by
    unfold frzL
    split
    · rename_i e T l hk
      obtain ⟨g1, hg, hR, M1⟩ := frz_ok M hk
      have E1 := frz_env hg hR E
      rw [← frz_ts hk] at E1
      obtain ⟨g2, hg2, q⟩ := frzL_okL (ks := ks) M1 E1 (sub_ok hg hR hr)
      exact ⟨g2, hg.trans hg2, q⟩
    · exact frzL_okL M E hr

theorem vpvL_ok (M : VMem h0 X g H S.os h) (E : EnvR g H S.ts env) {T : Ty} {s : SV} {K : VS → List T.D → Option R} {r : R} (hk : vpvL S T s K = some r) {xs : List AV} (hr : SVL g H s xs) :
    ∃ g' S' l, g.le g' ∧ VMem h0 X g' H S'.os h ∧ EnvR g' H S'.ts env ∧ All2 (RepV g' T) xs l ∧ K S' l = some r := by
  unfold vpvL at hk
  split at hk
  · rename_i v hv
    exact ⟨g, S, v, FM.le.refl g, M, E, toL_ok hv hr, hk⟩
  · split at hk
    · rename_i v hv
      obtain ⟨g', h1, h2, h3, h4⟩ := frzL_okL (ks := s.rows) M E hr
      exact ⟨g', _, v, h1, h2, h3, toL_ok hv h4, hk⟩
    · cases hk

theorem cells_all {T : Ty} : ∀ {xs : List AV} {l : List T.D}, All2 (RepV g T) xs l → ∃ cs, xs.map AV.cells = cs.map some ∧ All2 (RepC g T) cs l
  | [], [], _ => ⟨[], rfl, trivial⟩
  | x :: xs, v :: l, h => by
    obtain ⟨c, h1, h2⟩ := h.1.cells
    obtain ⟨cs, h3, h4⟩ := cells_all h.2
    exact ⟨c :: cs, by simp [h1, h3], h2, h4⟩
  | [], _ :: _, h => h.elim
  | _ :: _, [], h => h.elim

theorem idxd_of : ∀ {ps : List (Nat × AV)} {n : Nat}, ps.map (·.1) = List.range' n ps.length → ps = idxd (ps.map (·.2)) n
  | [], _, _ => rfl
  | (i, x) :: ps, n, h => by
    simp only [List.map_cons, List.length_cons, List.range'_succ, List.cons.injEq] at h
    simp only [List.map_cons, idxd]
    rw [← idxd_of h.2, h.1]

theorem vbuildSlice_ok (M : VMem h0 X g H S.os h) (E : EnvR g H S.ts env) {t : TypeId} {len : Nat} {ev : Operand → AV} {sv : Operand → SV} (he : ∀ o, SVR g H (sv o) (ev o)) {ps : List (Nat × Operand)} {K : VS → SV → Option R} {r : R}
    (hk : vbuildSlice P S t len (ps.map fun p => (p.1, sv p.2)) K = some r) : Went h0 X g H env (abuildSlice P t len (ps.map fun p => (p.1, ev p.2)) h) K r := by
  unfold vbuildSlice at hk
  split at hk
  rotate_left
  · cases hk
  rename_i e hse
  split at hk
  rotate_left
  · cases hk
  rename_i T hT
  split at hk
  rotate_left
  · cases hk
  rename_i hc
  obtain ⟨c1, c2, c3⟩ := hc
  have b := slOk_ty c1
  have hS : SVL g H (SV.ofList ((ps.map fun p => (p.1, sv p.2)).map (·.2))) (ps.map fun p => ev p.2) := by
    rw [List.map_map]
    exact SVL.ofList (fun p : Nat × Operand => he p.2) ps
  obtain ⟨g', S', l, hg, M', E', hr, hk⟩ := vpvL_ok M E hk hS
  obtain ⟨cs, k1, k2⟩ := cells_all hr
  have hlc : cs.length = len := by
    have h1 := congrArg List.length k1
    have h2 := congrArg List.length c2
    simp at h1 h2
    omega
  obtain ⟨u, h1, q1, q2⟩ := Sep.build b (Sep.nil h) (ps.map fun p => ev p.2) cs k1 (all_len k2) (by rw [hlc]; exact c3)
  refine Went.more hg (Went.ofSep M' E' (h' := h1) q2 k2 ?_ hk)
  rw [← q1, hlc]
  congr 1
  have hlp : ps.length = len := by have h2 := congrArg List.length c2; simpa using h2
  have := idxd_of (ps := ps.map fun p => (p.1, ev p.2)) (n := 0) (by
    rw [List.map_map, List.length_map, hlp, ← List.range_eq_range', ← c2, List.map_map]; rfl)
  rw [this, List.map_map]
  rfl

theorem cap_ok (c : Int) (b : Nat) (h0 : 0 ≤ c) (hc : c ≤ min c 100000000) (hb : b < 1000) : c * ((b : Int) + 1) ≤ sizeCap := by
  have h1 : c * ((b : Int) + 1) ≤ c * 1000 := Int.mul_le_mul_of_nonneg_left (by omega) h0
  have h2 : (sizeCap : Int) = 1099511627776 := rfl
  rw [h2]
  omega
theorem vmake_ok (hm : m.real = true) (M : VMem h0 X g H S.os h) (E : EnvR g H S.ts env) {t : TypeId} {l c : SV} {K : VS → SV → Option R} {r : R} (hk : vmake P m S t l c K = some r) {x y : AV} (hl : SVR g H l x) (hc : SVR g H c y) : Went h0 X g H env (amakeSlice P t x y h) K r := by
  unfold vmake at hk
  split at hk
  rotate_left
  · cases hk
  rename_i e k1 n k2 c hse
  rw [pvI hl, pvI hc]
  split at hk
  rotate_left
  · cases hk
  rename_i T hT
  split at hk
  rotate_left
  · cases hk
  rename_i hsl
  have b := slOk_ty hsl
  split at hk
  rotate_left
  · cases hk
  rename_i z hz
  obtain ⟨u, hu, hk⟩ := vbind_ok hm hk
  obtain ⟨p1, p2, p3⟩ := chkSub_ok hu
  obtain ⟨zx, z1, z2⟩ := zeroT_ok (g := g) hz
  obtain ⟨cs, z3, z4⟩ := z2.cells
  obtain ⟨i, zv, hi, i1, i2, i3, i4⟩ := b.info
  have hz1 := z4.len
  have hcap := cap_ok c i.bytes (Int.le_trans p1 p2) p3 i2
  have hmk : amakeSlice P t (.int k1 n) (.int k2 c) h = some (.sl h.n 0 n.toNat T.size, h.push (.cells (zrow cs n.toNat) true 0 (some (e, false)))) := by
    have hpos := b.pos
    simp only [amakeSlice, hse, hi, z1, z3, i1, hz1]
    rw [if_pos ⟨by omega, by omega, hcap, trivial, hpos⟩]
  refine Went.add M E (x := .sl h.n 0 n.toNat T.size) (o := .row e T (List.replicate n.toNat z)) (s := .row S.os.length) hmk (by rw [AH.push_n]; omega) (fun j p hj => by rw [AH.get_push_ne (by have := AH.get_lt hj; omega)]; exact hj) (fun id hi => by cases hi; exact Nat.le_refl _) (.inr ⟨h.n, 0, zrow cs n.toNat, List.replicate n.toNat cs, by rw [List.length_replicate], AH.get_push_new _ _, ?_, ?_, All2.rep _ z4⟩) ⟨_, at_new M, rfl, .inr ⟨_, _, _, _, rfl⟩⟩ hk
  · rw [zrow_rep, List.length_replicate]
    have := flat_len (xs := List.replicate n.toNat cs) (sz := T.size) (fun x hx => by rw [List.eq_of_mem_replicate hx]; exact hz1)
    rw [List.length_replicate] at this
    omega
  · rw [zrow_rep, List.length_replicate, List.drop_zero, List.take_of_length_le]
    have := flat_len (xs := List.replicate n.toNat cs) (sz := T.size) (fun x hx => by rw [List.eq_of_mem_replicate hx]; exact hz1)
    rw [List.length_replicate] at this
    omega

theorem vbytes_ok (M : VMem h0 X g H S.os h) (E : EnvR g H S.ts env) {s d : TypeId} {a : SV} {K : VS → SV → Option R} {r : R} (hk : vbytes P S s d a K = some r) {x : AV} (ha : SVR g H a x) : Went h0 X g H env (aconv P s d x h) K r := by
  unfold vbytes at hk
  split at hk
  · rename_i e l hs hd
    split at hk
    · rename_i he
      rw [pvS ha]
      obtain ⟨u, h1, q1, q2⟩ := Sep.bytes (x := .string) hs hd he (Sep.nil h) l
      exact Went.ofSep (T := .int .u8) M E q2 (ints_rep l) q1 hk
    · cases hk
  · cases hk

/-! ### Parts of a row cleared -/
theorem seg_write {c : List AV} {off sz n : Nat} {xs ys : List (List AV)} (hx : ∀ x ∈ xs, x.length = sz) (hy : ∀ x ∈ ys, x.length = sz) (hn : xs.length = n) (hb : off + n * sz ≤ c.length) (hs : (c.drop off).take (n * sz) = xs.flatten) {a : Nat} (ha : a + ys.length ≤ n) :
    ((splice c (off + a * sz) ys.flatten).drop off).take (n * sz) = (xs.take a ++ (ys ++ xs.drop (a + ys.length))).flatten := by
  have hyl := flat_len hy
  have f1 : (xs.take a).flatten = (c.drop off).take (a * sz) := by
    have : a * sz ≤ n * sz := Nat.mul_le_mul_right _ (by omega)
    rw [take_flat hx, ← hs, List.take_take, Nat.min_eq_left (by omega)]
  have f2 : (xs.drop (a + ys.length)).flatten = ((c.drop off).take (n * sz)).drop ((a + ys.length) * sz) := by
    rw [drop_flat hx, ← hs]
  have hm : (a + ys.length) * sz ≤ n * sz := Nat.mul_le_mul_right _ ha
  rw [Nat.add_mul] at hm
  rw [List.flatten_append, List.flatten_append, f1, f2]
  unfold splice
  rw [List.drop_append, List.drop_take, List.length_take, show off - min (off + a * sz) c.length = 0 by omega, List.drop_zero, show off + a * sz - off = a * sz by omega]
  rw [List.take_append, List.take_of_length_le (l := (c.drop off).take (a * sz)) (by rw [List.length_take]; omega), List.length_take, List.length_drop]
  congr 1
  rw [show min (a * sz) (c.length - off) = a * sz by omega]
  rw [List.take_append, List.take_of_length_le (l := ys.flatten) (by omega), hyl]
  congr 1
  rw [List.drop_take, List.drop_drop, Nat.add_mul]
  rw [show off + a * sz + ys.length * sz = off + (a * sz + ys.length * sz) by omega, show n * sz - a * sz - ys.length * sz = n * sz - (a * sz + ys.length * sz) by omega]

/-- The elements of a row from a place to another one, cleared. -/
def vclear (P : Program) (S : VS) (t : TypeId) (x : SV) (K : VS → SV → Option R) : Option R :=
  match sliceElem P t with
  | some e => match x with
    | .con (.val (.slice none 0 0)) => K S .un
    | .row k => match S.os[k]? with
      | some (some (.row e' T l)) => match zeroT P e T with
        | some z => if 0 < T.size then K ⟨S.ts, S.os.set k (some (.row e' T (oRep (oLen l) z)))⟩ .un else none
        | none => none
      | _ => none
    | .view k a b => match S.os[k]? with
      | some (some (.row e' T l)) => match zeroT P e T with
        | some z => if 0 < T.size then K ⟨S.ts, S.os.set k (some (.row e' T (oClr l a b z)))⟩ .un else none
        | none => none
      | _ => none
    | _ => none
  | none => none

theorem clear_row (M : VMem h0 X g H S.os h) (E : EnvR g H S.ts env) {ats : Array TypeId} {t e e' : TypeId} (ht : ats[0]? = some t) (he : sliceElem P t = some e) {k : Nat} {T : Ty} {l : List T.D} (hos : S.os[k]? = some (some (.row e' T l))) {z : T.D} (hz : zeroT P e T = some z) (hp : 0 < T.size)
    {a b : Nat} (hab : a ≤ b) (hb : b ≤ l.length) {id off n sz : Nat} (hH : H[k]? = some (.sl id off n sz)) {K : VS → SV → Option R} {r : R}
    (hk : K ⟨S.ts, S.os.set k (some (.row e' T (l.take a ++ (List.replicate (b - a) z ++ l.drop b))))⟩ .un = some r) : Went h0 X g H env (aclear P ats [.sl id (off + a * sz) (b - a) sz] h) K r := by
  rcases M.so k _ _ hos hH with ⟨e1, _⟩ | ⟨id', off', c, xs, e1, q1, q2, q3, q4⟩
  · cases e1
  cases e1
  obtain ⟨zx, z1, z2⟩ := zeroT_ok (g := g) hz
  obtain ⟨cs, z3, z4⟩ := z2.cells
  have hz1 := z4.len
  have hall := all_len q4
  have hln := q4.len
  have hll : (l.take a ++ (List.replicate (b - a) z ++ l.drop b)).length = l.length := by simp; omega
  by_cases h0' : b - a = 0
  · have hab' : a = b := by omega
    subst hab'
    have e2 : l.take a ++ (List.replicate (a - a) z ++ l.drop a) = l := by simp
    rw [e2] at hk
    have e3 : S.os.set k (some (.row e' T l)) = S.os := by
      apply List.ext_getElem?
      intro j
      by_cases hj : k = j
      · subst hj; rw [List.getElem?_set_self (lt_at hos), hos]
      · rw [List.getElem?_set_ne hj]
    rw [e3] at hk
    exact Went.same M E (y := .undef) (s := .un) (by simp [aclear, ht, he]) rfl hk
  · have hm : (b - a) * T.size + a * T.size ≤ l.length * T.size := by rw [← Nat.add_mul]; exact Nat.mul_le_mul_right _ (by omega)
    have hys : ∀ x ∈ List.replicate (b - a) cs, x.length = T.size := fun x hx => by rw [List.eq_of_mem_replicate hx]; exact hz1
    have hfl := flat_len hys
    rw [List.length_replicate] at hfl
    have hcl : aclear P ats [.sl id (off + a * T.size) (b - a) T.size] h = some (.undef, h.set id (.cells (splice c (off + a * T.size) (zrow cs (b - a))) true 0 (some (e', false)))) := by
      simp only [aclear, ht, he, q1, z1, z3]
      rw [if_neg h0', if_pos ⟨hz1, hp, by rw [zrow_rep]; omega, Nat.zero_le _, by
        rw [zrow_rep, List.all_flatten, List.all_eq_true]
        intro x hx
        rw [List.eq_of_mem_replicate hx]; exact z4.ones⟩]
    refine ⟨.undef, _, g, H, ⟨S.ts, S.os.set k (some (.row e' T (l.take a ++ (List.replicate (b - a) z ++ l.drop b))))⟩, .un, hcl, FM.le.refl g, Hpre.refl H, ?_, E, rfl, hk⟩
    refine M.upd hos hH rfl (by rw [AH.set_n]; exact Nat.le_refl _) (fun j q hne hq => by rw [AH.get_set_ne hne]; exact hq) (.inr ⟨id, off, _, xs.take a ++ (List.replicate (b - a) cs ++ xs.drop b), by rw [hll], AH.get_set_same q1, ?_, ?_, (q4.take _).append ((All2.rep _ z4).append (q4.drop _))⟩)
    · rw [hll, splice_len (by rw [zrow_rep]; omega)]; exact q2
    · rw [hll, zrow_rep]
      have := seg_write (a := a) hall hys hln q2 q3 (by rw [List.length_replicate]; omega)
      rw [List.length_replicate, show a + (b - a) = b by omega] at this
      exact this

theorem vclear_ok (M : VMem h0 X g H S.os h) (E : EnvR g H S.ts env) {ats : Array TypeId} {t : TypeId} (ht : ats[0]? = some t) {x : SV} {K : VS → SV → Option R} {r : R} (hk : vclear P S t x K = some r) {y : AV} (hx : SVR g H x y) : Went h0 X g H env (aclear P ats [y] h) K r := by
  unfold vclear at hk
  split at hk
  rotate_left
  · cases hk
  rename_i e he
  split at hk
  · cases hx
    exact Went.same M E (y := .undef) (s := .un) (by simp [aclear, ht, he]) rfl hk
  · rename_i k
    split at hk
    · rename_i e' T l hos
      split at hk
      · rename_i z hz
        split at hk
        · rename_i hp
          obtain ⟨w, h1, e1, h2⟩ := hx
          cases e1
          rcases h2 with rfl | ⟨id, off, n, sz, rfl⟩
          · rcases M.so k _ _ hos h1 with ⟨_, rfl⟩ | ⟨_, _, _, _, e1, _⟩
            · have e3 : S.os.set k (some (.row e' T (oRep (oLen ([] : List T.D)) z))) = S.os := by
                apply List.ext_getElem?
                intro j
                by_cases hj : k = j
                · subst hj; rw [List.getElem?_set_self (lt_at hos), hos]; simp [oRep, oLen]
                · rw [List.getElem?_set_ne hj]
              rw [e3] at hk
              exact Went.same M E (y := .undef) (s := .un) (by simp [aclear, ht, he]) rfl hk
            · cases e1
          · have hn : n = l.length := by
              rcases M.so k _ _ hos h1 with ⟨e1, _⟩ | ⟨_, _, _, _, e1, _⟩
              · cases e1
              · cases e1; rfl
            have := clear_row M E ht he hos hz hp (a := 0) (b := l.length) (Nat.zero_le _) (Nat.le_refl _) h1 (K := K) (r := r) (by simpa [oRep, oLen] using hk)
            simpa [hn] using this
        · cases hk
      · cases hk
    · cases hk
  · rename_i k a b
    split at hk
    · rename_i e' T l hos
      split at hk
      · rename_i z hz
        split at hk
        · rename_i hp
          obtain ⟨h1, h2, h3⟩ := hx
          rcases h3 with ⟨id, off, n, sz, k1, k2, e1⟩ | ⟨k1, rfl, rfl, e1⟩
          · cases e1
            have hn : n = l.length := by
              rcases M.so k _ _ hos k1 with ⟨e1, _⟩ | ⟨_, _, _, _, e1, _⟩
              · cases e1
              · cases e1; rfl
            exact clear_row M E ht he hos hz hp (by omega) (by omega) k1 hk
          · cases e1
            have e3 : S.os.set k (some (.row e' T (oClr l 0 0 z))) = S.os := by
              apply List.ext_getElem?
              intro j
              by_cases hj : k = j
              · subst hj; rw [List.getElem?_set_self (lt_at hos), hos]; simp [oClr]
              · rw [List.getElem?_set_ne hj]
            rw [e3] at hk
            exact Went.same M E (y := .undef) (s := .un) (by simp [aclear, ht, he]) rfl hk
        · cases hk
      · cases hk
    · cases hk
  · cases hk

/-! ### Maps -/
theorem vmakeMap_ok (M : VMem h0 X g H S.os h) (E : EnvR g H S.ts env) {cf : CallF} {t : TypeId} {K : VS → SV → Option R} {r : R} (hk : vmakeMap P S t K = some r) : Went h0 X g H env (some (.map h.n, h.push (.map [] 0))) K r := by
  unfold vmakeMap at hk
  split at hk
  · split at hk
    · rename_i Kt Et _ _
      exact Went.add M E (x := .map h.n) (o := .map Kt Et ⟨[], 0⟩) (s := .mp S.os.length) rfl (by rw [AH.push_n]; omega) (fun j p hj => by rw [AH.get_push_ne (by have := AH.get_lt hj; omega)]; exact hj) (fun id hi => by cases hi; exact Nat.le_refl _) ⟨h.n, [], rfl, AH.get_push_new _ _, trivial⟩ ⟨h.n, at_new M, rfl⟩ hk
    · cases hk
  · cases hk

theorem EntV.setAt {Kt Et : Ty} {es : List (AV × AV × Nat)} {fs : List (Kt.D × Et.D × Nat)} (h : All2 (EntV g Kt Et) es fs) {j : Nat} {kx y : AV} {b : Nat} {x w : AV} {k : Kt.D} {v : Et.D} (hj : es[j]? = some (kx, y, b)) (hk : RepV g Kt x k) (hv : RepV g Et w v) :
    All2 (EntV g Kt Et) (setEntry es j x w) (fs.set j (k, v, b)) := by
  unfold setEntry
  rw [hj]
  exact h.set j ⟨hk, hv, rfl⟩

theorem mapSet_ok (M : VMem h0 X g H S.os h) {t kt et : TypeId} (hm : mapOf P t = some (kt, et)) {n id : Nat} {Kt Et : Ty} {mm : GMap Kt.D Et.D} (hos : S.os[n]? = some (some (.map Kt Et mm))) (hH : H[n]? = some (.map id)) (hko : KeyOk (P.underlying kt) Kt = true) {x w : AV} {k : Kt.D} {v : Et.D} (hx : RepV g Kt x k) (hv : RepV g Et w v) :
    ∃ h1, amapUpdate P t (.map id) x w h = some h1 ∧ VMem h0 X g H (S.os.set n (some (.map Kt Et (msetT Kt mm k v)))) h1 := by
  obtain ⟨id', es, e, h2, h3⟩ := M.so n _ _ hos hH
  cases e
  have F := findR hko hx h3
  cases hgt : mgetT Kt mm k with
  | none =>
    obtain ⟨f1, f2⟩ := F.no hgt
    refine ⟨h.set id (.map (es ++ [(x, w, mm.clock)]) (mm.clock + 1)), by simp only [amapUpdate, hm, h2, F.ok, f1, if_true], ?_⟩
    exact M.upd hos hH rfl (by rw [AH.set_n]; exact Nat.le_refl _) (fun j q hne hq => by rw [AH.get_set_ne hne]; exact hq) ⟨id, es ++ [(x, w, mm.clock)], rfl, by rw [f2]; exact AH.get_set_same h2, by rw [f2]; exact h3.append ⟨⟨hx, hv, rfl⟩, trivial⟩⟩
  | some u =>
    obtain ⟨j, b, y, f1, f2, ⟨kx, f3⟩, f4⟩ := F.yes u hgt
    refine ⟨h.set id (.map (setEntry es j x w) mm.clock), by simp only [amapUpdate, hm, h2, F.ok, f1, if_true], ?_⟩
    exact M.upd hos hH rfl (by rw [AH.set_n]; exact Nat.le_refl _) (fun j q hne hq => by rw [AH.get_set_ne hne]; exact hq) ⟨id, _, rfl, by rw [f4]; exact AH.get_set_same h2, by rw [f4]; exact EntV.setAt h3 f3 hx hv⟩

theorem vmapSet_ok (M : VMem h0 X g H S.os h) (E : EnvR g H S.ts env) {t : TypeId} {a k v : SV} {K : VS → SV → Option R} {r : R} (hk : vmapSet P S t a k v K = some r) {x y z : AV} (ha : SVR g H a x) (hy : SVR g H k y) (hz : SVR g H v z) :
    Went h0 X g H env ((amapUpdate P t x y z h).map fun h' => (.undef, h')) K r := by
  unfold vmapSet at hk
  split at hk
  rotate_left
  · cases hk
  rename_i kt et hm
  split at hk
  rotate_left
  · cases hk
  rename_i n Et hEt
  obtain ⟨g1, S1, vv, hg, M1, E1, hv, hk⟩ := vpv_ok M E hk hz
  split at hk
  rotate_left
  · cases hk
  rename_i Kt Et' mm hos
  split at hk
  rotate_left
  · cases hk
  rename_i kv vv' hkv hvv
  split at hk
  rotate_left
  · cases hk
  rename_i hko
  obtain ⟨id, h1, e⟩ := ha
  cases e
  obtain ⟨h2, q1, q2⟩ := mapSet_ok M1 hm hos h1 hko (toC_ok hkv (SVR.mono hg (Hpre.refl H) hy)) (asT_ok hvv hv)
  exact Went.more hg ⟨.undef, h2, g1, H, ⟨S1.ts, S1.os.set n (some (.map Kt Et' (msetT Kt mm kv vv')))⟩, .un, by rw [q1]; rfl, FM.le.refl _, Hpre.refl _, q2, E1, rfl, hk⟩

/-! ### Letters of a text -/
def vrange (P : Program) (S : VS) (t : TypeId) (a : SV) (K : VS → SV → Option R) : Option R :=
  match P.underlying t, a with
  | some .string, .pv .str l => K ⟨S.ts, S.os ++ [some (.sit l 0)]⟩ (.ptr S.os.length 0)
  | _, _ => none
def vnext (m : Md R) (S : VS) (it : SV) (str : Bool) (K : VS → SV → Option R) : Option R :=
  match it, str with
  | .ptr k 0, true => match S.os[k]? with
    | some (some (.sit l p)) => vcond m (oLt p (oLen l))
        (K ⟨S.ts, S.os.set k (some (.sit l (oDecN l p)))⟩ (.tup (.cn (.kb true) (.cn (.pv (.int .i64) p) (.cn (.pv (.int .i32) (oDecR l p)) .nl)))))
        (K S (.tup (.cn (.kb false) .nl)))
    | _ => none
  | _, _ => none
theorem vrange_ok (M : VMem h0 X g H S.os h) (E : EnvR g H S.ts env) {t : TypeId} {a : SV} {K : VS → SV → Option R} {r : R} (hk : vrange P S t a K = some r) {x : AV} (ha : SVR g H a x) : Went h0 X g H env (arange P t x h) K r := by
  unfold vrange at hk
  split at hk
  · rename_i l hu
    rw [pvS ha]
    exact Went.add M E (x := .ptr h.n 0) (h' := h.push (.siter l 0)) (o := .sit l 0) (s := .ptr S.os.length 0) (by simp only [arange, hu]) (by rw [AH.push_n]; omega) (fun j p hj => by rw [AH.get_push_ne (by have := AH.get_lt hj; omega)]; exact hj) (fun id hi => by cases hi; exact Nat.le_refl _) ⟨h.n, rfl, by omega, AH.get_push_new _ _⟩ ⟨h.n, at_new M, rfl⟩ hk
  · cases hk
theorem vnext_ok (hm : m.real = true) (M : VMem h0 X g H S.os h) (E : EnvR g H S.ts env) {a : SV} {str : Bool} {K : VS → SV → Option R} {r : R} (hk : vnext m S a str K = some r) {x : AV} (ha : SVR g H a x) : Went h0 X g H env (anext x str h) K r := by
  unfold vnext at hk
  split at hk
  · rename_i k
    split at hk
    · rename_i l p hos
      obtain ⟨id, h1, e⟩ := ha
      cases e
      obtain ⟨id', e, p0, h2⟩ := M.so k _ _ hos h1
      cases e
      rcases vcond_ok hm hk with ⟨hb, hk⟩ | ⟨hb, hk⟩
      · have hlt : p.toNat < l.length := by simp [oLt, oLen] at hb; omega
        refine ⟨.tup [.bool true, .int .i64 p.toNat, .int .i32 (Utf8.decode ⟨⟨l⟩⟩ p.toNat).1], h.set id (.siter l (p.toNat + (Utf8.decode ⟨⟨l⟩⟩ p.toNat).2)), g, H, ⟨S.ts, S.os.set k (some (.sit l (p + (Utf8.decode ⟨⟨l⟩⟩ p.toNat).2)))⟩, _, by simp only [anext, h2, if_pos hlt], FM.le.refl g, Hpre.refl H, ?_, E, ?_, hk⟩
        · exact M.upd hos h1 rfl (by rw [AH.set_n]; exact Nat.le_refl _) (fun j q hne hq => by rw [AH.get_set_ne hne]; exact hq) ⟨id, rfl, by omega, by rw [AH.get_set_same h2, Int.toNat_add p0 (by omega)]; rfl⟩
        · refine ⟨_, rfl, _, _, rfl, rfl, _, _, rfl, ?_, _, _, rfl, int_pv _ _, rfl⟩
          have : (p.toNat : Int) = p := by omega
          rw [this]
          exact int_pv _ _
      · have hlt : ¬ p.toNat < l.length := by simp [oLt, oLen] at hb; omega
        refine ⟨.tup [.bool false], h, g, H, S, _, by simp only [anext, h2, if_neg hlt], FM.le.refl g, Hpre.refl H, M, E, ?_, hk⟩
        exact ⟨_, rfl, _, _, rfl, rfl, rfl⟩
    · cases hk
  · cases hk
end
end Go.Proofs.YtlpiiifmidehjaaDoorM
