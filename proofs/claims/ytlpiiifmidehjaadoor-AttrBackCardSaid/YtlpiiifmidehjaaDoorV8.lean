/- The value machine: slices that are made and appended to; maps; letters of a text. -/
import Derived.Test.YtlpiiifmidehjaaDoorV7
set_option linter.unusedSimpArgs false
set_option linter.unusedVariables false
namespace Go.Proofs.YtlpiiifmidehjaaDoorM
open Go Go.RowKit

/-! ### Slice types -/
def slOk (P : Program) (t e : TypeId) (sz : Nat) : Bool :=
  (match P.underlying t with
  | some (.slice e') => e' == e
  | _ => false) &&
  decide ((P.info? e).map (fun i => (i.size, decide (i.bytes < 1000), i.zero.map fun z => z.cells.size)) = some (sz, true, some sz)) &&
  decide ((zeroOf P e).bind (fun z => z.cells.map List.length) = some sz) && decide (0 < sz) && decide (sz < 1000)
theorem slOk_ty {P : Program} {t e : TypeId} {sz : Nat} (h : slOk P t e sz = true) : SlTy P t e sz := by
  unfold slOk at h
  simp only [Bool.and_eq_true, decide_eq_true_eq] at h
  obtain ⟨⟨⟨⟨h1, h2⟩, h3⟩, h4⟩, h5⟩ := h
  refine ⟨?_, h2, h3, h4, h5⟩
  split at h1
  · rename_i e' hu; rw [hu]; simp only [beq_iff_eq] at h1; rw [h1]
  · cases h1

section
variable {R : Type}
/-- The elements that are appended. -/
def moreOf (S : VS) (T : Ty) (s : SV) : Option (List T.D) :=
  match s with
  | .pv .str l => asT (.lst (.int .u8)) (.lst T) (oInts l)
  | s => lstOf S T s
/-- What is appended to: its elements, its slot. -/
def baseOf (S : VS) (e : TypeId) (T : Ty) (s : SV) : Option (List T.D × Option Nat) :=
  match s with
  | .con (.val (.slice none 0 0)) => some ([], none)
  | .row k => match S.os[k]? with
    | some (some (.row e' T' l)) => if e' = e then (asT (.lst T') (.lst T) l).map fun l => (l, some k) else none
    | _ => none
  | .view k a b => match S.os[k]? with
    | some (some (.row e' T' l)) => if e' = e then (asT (.lst T') (.lst T) (oTD l a b)).map fun l => (l, some k) else none
    | _ => none
  | _ => none
def rid (S : VS) (k : Option Nat) : List (Option SO) :=
  match k with
  | some k => S.os.set k none
  | none => S.os
def vappend (P : Program) (m : Md R) (S : VS) (st xt : TypeId) (s x : SV) (K : VS → SV → Option R) : Option R :=
  match sliceElem P st with
  | some e => match tyOf P e with
    | some T => if slOk P st e T.size = true ∧ (P.underlying xt).map notInt = some true then
        match baseOf S e T s, moreOf S T x with
        | some (zs, k), some ys => vbind m ([] : List T.D) (app zs ys) fun r => K ⟨S.ts, rid S k ++ [some (.row e T r)]⟩ (.row S.os.length)
        | _, _ => none
      else none
    | none => none
  | none => none

def toL (T : Ty) : SV → Option (List T.D)
  | .nl => some []
  | .cn a b => match toT T a, toL T b with
    | some x, some l => some (x :: l)
    | _, _ => none
  | _ => none
def vpvL (S : VS) (T : Ty) (s : SV) (K : VS → List T.D → Option R) : Option R :=
  match toL T s with
  | some v => K S v
  | none => match toL T (frzL S s s.rows).2 with
    | some v => K (frzL S s s.rows).1 v
    | none => none
def vbuildSlice (P : Program) (S : VS) (t : TypeId) (len : Nat) (parts : List (Nat × SV)) (K : VS → SV → Option R) : Option R :=
  match sliceElem P t with
  | some e => match tyOf P e with
    | some T => if slOk P t e T.size = true ∧ parts.map (·.1) = List.range len ∧ len * T.size ≤ 16777216 then
        vpvL S T (SV.ofList (parts.map (·.2))) fun S1 l => K ⟨S1.ts, S1.os ++ [some (.row e T l)]⟩ (.row S1.os.length)
      else none
    | none => none
  | none => none
def vmake (P : Program) (m : Md R) (S : VS) (t : TypeId) (l c : SV) (K : VS → SV → Option R) : Option R :=
  match sliceElem P t, l, c with
  | some e, .pv (.int _) n, .pv (.int _) c => match tyOf P e with
    | some T => if slOk P t e T.size = true then match zeroT P e T with
        | some z => vbind m () (chkSub (oMin c 100000000) n c) fun _ => K ⟨S.ts, S.os ++ [some (.row e T (oRep n z))]⟩ (.row S.os.length)
        | none => none
      else none
    | none => none
  | _, _, _ => none
def vbytes (P : Program) (S : VS) (s d : TypeId) (a : SV) (K : VS → SV → Option R) : Option R :=
  match P.underlying s, P.underlying d, a with
  | some .string, some (.slice e), .pv .str l => match P.underlying e with
    | some (.int .u8) => K ⟨S.ts, S.os ++ [some (.row e (.int .u8) (oInts l))]⟩ (.row S.os.length)
    | _ => none
  | _, _, _ => none
end

section
variable {R : Type} {m : Md R} {P : Program} {g g' : FM} {H : List AV} {env : List AV} {h h0 h' : AH} {X : List Nat} {S : VS}

/-- A step that makes a new slot, of some new blocks. -/
theorem Went.add (M : VMem h0 X g H S.os h) (E : EnvR g H S.ts env) {res : Option (AV × AH)} {K : VS → SV → Option R} {r : R} {x : AV} {o : SO} {s : SV} (e : res = some (x, h')) (hn : h.n ≤ h'.n) (hf : ∀ j q, h.get j = some q → h'.get j = some q) (hx : ∀ id, hid x = some id → h.n ≤ id)
    (ho : SOR g (H ++ [x]) h' o x) (hs : SVR g (H ++ [x]) s x) (hk : K ⟨S.ts, S.os ++ [some o]⟩ s = some r) : Went h0 X g H env res K r :=
  ⟨x, _, g, _, ⟨S.ts, S.os ++ [some o]⟩, s, e, FM.le.refl g, Hpre.add H x, M.add hn hf hx ho, E.mono (FM.le.refl g) (Hpre.add H x), hs, hk⟩

theorem Went.ofSep (M : VMem h0 X g H S.os h) (E : EnvR g H S.ts env) {res : Option (AV × AH)} {K : VS → SV → Option R} {r : R} {u : AV} {e : TypeId} {T : Ty} {xs : List (List AV)} {l : List T.D} (hs : Sep h [] h' [.row u e T.size xs]) (ha : All2 (RepC g T) xs l) (he : res = some (u, h'))
    (hk : K ⟨S.ts, S.os ++ [some (.row e T l)]⟩ (.row S.os.length) = some r) : Went h0 X g H env res K r := by
  obtain ⟨hl, hrow⟩ := hs.ok (.row u e T.size xs) (List.mem_cons_self ..)
  have hln := ha.len
  have hfl := flat_len hl
  refine Went.add M E he hs.n (fun j q hq => hs.old j q (by simp) hq) (fun id hi => ?_) ?_ ?_ hk
  · rcases hs.own (.row u e T.size xs) (List.mem_cons_self ..) id (by
      cases u <;> simp [hid] at hi <;> simp [Ent.ids, idsOf]
      · rcases hrow with ⟨_, e'⟩ | ⟨_, e', _⟩ <;> cases e'
      · exact hi.symm
      · rcases hrow with ⟨_, e'⟩ | ⟨_, e', _⟩ <;> cases e') with h1 | h1
    · simp at h1
    · exact h1
  · rcases hrow with ⟨rfl, rfl⟩ | ⟨id, rfl, hg⟩
    · exact .inl ⟨rfl, List.eq_nil_of_length_eq_zero hln.symm⟩
    · exact .inr ⟨id, 0, _, xs, by rw [hln], hg, by rw [← hln]; omega, by rw [List.drop_zero, ← hln, List.take_of_length_le (by omega)], ha⟩
  · refine ⟨u, at_new M, rfl, ?_⟩
    rcases hrow with ⟨_, rfl⟩ | ⟨id, rfl, _⟩
    · exact .inl rfl
    · exact .inr ⟨id, _, _, _, rfl⟩

/-- A slot that goes on under another name. -/
theorem VMem.mov (M : VMem h0 X g H S.os h) {k : Nat} {o o' : SO} {x x' : AV} (hk : S.os[k]? = some (some o)) (hx : H[k]? = some x) (hi : ∀ id, hid x' = some id → hid x = some id) (ho : SOR g (H ++ [x']) h o' x') : VMem h0 X g (H ++ [x']) (S.os.set k none ++ [some o']) h := by
  have hp := Hpre.add H x'
  have hlk := lt_at hk
  have old : ∀ {j p y}, (S.os.set k none ++ [some o'])[j]? = some (some p) → (H ++ [x'])[j]? = some y → (j = S.os.length ∧ p = o' ∧ y = x') ∨ (j ≠ k ∧ S.os[j]? = some (some p) ∧ H[j]? = some y) := fun {j p y} hj hy => by
    rcases app_at hj with ⟨e, e'⟩ | ⟨hlt, hj⟩
    · cases e'
      rw [List.length_set] at e
      rcases app_at hy with ⟨_, e''⟩ | ⟨hlt, _⟩
      · exact .inl ⟨e, rfl, e''⟩
      · rw [M.hl] at hlt; omega
    · rw [List.length_set] at hlt
      rcases app_at hy with ⟨e, _⟩ | ⟨_, hy⟩
      · rw [M.hl] at e; omega
      · rcases set_at hj with ⟨_, e', _⟩ | ⟨hne, hj⟩
        · cases e'
        · exact .inr ⟨hne, hj, hy⟩
  refine ⟨M.n, M.old, M.fz, by simp [M.hl], fun j p y h1 h2 => ?_, fun j p y i h1 h2 h3 => ?_, M.gx, fun j p y j' p' y' i h1 h2 h3 h4 h5 h6 => ?_⟩
  · rcases old h1 h2 with ⟨rfl, rfl, rfl⟩ | ⟨_, h1, h2⟩
    · exact ho
    · exact (M.so j p y h1 h2).mono (FM.le.refl g) hp
  · rcases old h1 h2 with ⟨rfl, rfl, rfl⟩ | ⟨_, h1, h2⟩
    · exact M.own k o x i hk hx (hi i h3)
    · exact M.own j p y i h1 h2 h3
  · rcases old h1 h2 with ⟨rfl, rfl, rfl⟩ | ⟨q1, h1', h2'⟩
    · rcases old h3 h4 with ⟨rfl, rfl, rfl⟩ | ⟨q2, h3', h4'⟩
      · rfl
      · exact absurd (M.nd k o x j' p' y' i hk hx h3' h4' (hi i h5) h6).symm q2
    · rcases old h3 h4 with ⟨rfl, rfl, rfl⟩ | ⟨q2, h3', h4'⟩
      · exact absurd (M.nd j p y k o x i h1' h2' hk hx h5 (hi i h6)) q1
      · exact M.nd j p y j' p' y' i h1' h2' h3' h4' h5 h6

theorem ints_rep (l : List UInt8) : All2 (RepC g (.int .u8)) ((l.map fun b => (b.toNat : Int)).map (cellI .u8)) (l.map fun b => (b.toNat : Int)) := by
  induction l with
  | nil => trivial
  | cons a l ih => exact ⟨rfl, ih⟩

theorem byte_cells : ∀ l : List UInt8, (l.map fun b => AV.int .u8 (b.toNat : Int)) = (((l.map fun b => (b.toNat : Int)).map (cellI .u8))).flatten
  | [] => rfl
  | a :: l => by simp only [List.map_cons, List.flatten_cons, byte_cells l]; rfl
/-- What is read of that which is appended. -/
structure MoreR (g : FM) (h : AH) (T : Ty) (x : AV) (ys : List T.D) : Prop where
  len : alen x = some ys.length
  cells : ∃ xs, All2 (RepC g T) xs ys ∧ acells x T.size ys.length h = some xs.flatten

theorem moreOf_ok (M : VMem h0 X g H S.os h) {T : Ty} (hp : 0 < T.size) {s : SV} {ys : List T.D} (hy : moreOf S T s = some ys) {x : AV} (hr : SVR g H s x) : MoreR g h T x ys := by
  have ro : lstOf S T s = some ys → MoreR g h T x ys := fun hy => by
    obtain ⟨xs, h1, h2⟩ := lstOf_ro M hy hr
    have hl := h1.len
    exact ⟨by rw [h2.alen, hl], xs, h1, by rw [← hl]; exact h2.cells hp⟩
  unfold moreOf at hy
  split at hy
  · rename_i l
    unfold asT at hy
    split at hy
    · rename_i e
      cases e
      cases hy
      rw [pvS hr]
      have e3 := byte_cells l
      refine ⟨by show some l.length = some (List.length (l.map _)); rw [List.length_map], _, ints_rep l, ?_⟩
      show acells (.str l) 1 (List.length (l.map _)) h = _
      rw [List.length_map]
      simp only [acells, Nat.le_refl, and_self, if_true, List.take_length]
      exact congrArg some e3
    · cases hy
  · exact ro hy

theorem vappend_ok (hm : m.real = true) (M : VMem h0 X g H S.os h) (E : EnvR g H S.ts env) {st xt : TypeId} {ats : Array TypeId} (ht0 : ats[0]? = some st) (ht1 : ats[1]? = some xt) {s x : SV} {K : VS → SV → Option R} {r : R} (hk : vappend P m S st xt s x K = some r) {u w : AV} (hs : SVR g H s u) (hx : SVR g H x w) :
    Went h0 X g H env (aappend P ats [u, w] h) K r := by
  unfold vappend at hk
  split at hk
  rotate_left
  · cases hk
  rename_i e he
  split at hk
  rotate_left
  · cases hk
  rename_i T hT
  split at hk
  rotate_left
  · cases hk
  rename_i hc
  obtain ⟨hc1, hc2⟩ := hc
  have b := slOk_ty hc1
  split at hk
  rotate_left
  · cases hk
  rename_i zs k ys hb hy
  obtain ⟨z, hz, hk⟩ := vbind_ok hm hk
  unfold app at hz
  split at hz
  rotate_left
  · cases hz
  rename_i hcap
  cases hz
  obtain ⟨i, hi, hi1, hi2, hroom⟩ := b.room
  obtain ⟨ml, xs, mx, mc⟩ := moreOf_ok M b.pos hy hx
  -- the base
  have key : ∀ (hal : alen u = some zs.length), aappend P ats [u, w] h = aappendAt e T.size ys.length xs.flatten u h := fun hal => by
    unfold aappend
    rw [ht0, ht1]
    simp only [he, hc2, hi, ml, hal, hi1, hroom (zs.length + ys.length) (by unfold capL at *; omega), mc]
  have hln := mx.len
  have hall := all_len mx
  -- a slice with a block
  have blk : ∀ {k' : Nat} {l : List T.D} {id off n : Nat} {c : List AV} {xs0 zx : List (List AV)} {x0 : AV}, S.os[k']? = some (some (.row e T l)) → H[k']? = some x0 → hid x0 = some id → k = some k' → u = .sl id off zs.length T.size → h.get id = some (.cells c true 0 (some (e, false))) →
      off + zs.length * T.size ≤ c.length → (c.drop off).take (zs.length * T.size) = zx.flatten → All2 (RepC g T) zx zs → Went h0 X g H env (aappend P ats [u, w] h) K r := fun {k' l id off n c xs0 zx x0} hos hH hhid hkk hu hg hle hseg hzs => by
    subst hkk
    subst hu
    rw [key (by rfl)]
    by_cases h0y : ys.length = 0
    · obtain rfl := List.eq_nil_of_length_eq_zero h0y
      have hM := VMem.mov (o' := .row e T (zs ++ [])) (x' := .sl id off zs.length T.size) M hos hH (fun j hj => by cases hj; exact hhid) (.inr ⟨id, off, c, zx, by rw [List.append_nil], hg, by rw [List.append_nil]; exact hle, by rw [List.append_nil]; exact hseg, by rw [List.append_nil]; exact hzs⟩)
      refine ⟨.sl id off zs.length T.size, h, g, _, ⟨S.ts, S.os.set k' none ++ [some (.row e T (zs ++ []))]⟩, .row S.os.length, by simp [aappendAt], FM.le.refl g, Hpre.add H _, hM, E.mono (FM.le.refl g) (Hpre.add H _), ?_, hk⟩
      exact ⟨_, at_new M, rfl, .inr ⟨_, _, _, _, rfl⟩⟩
    · have hones : xs.flatten.all AV.one = true := by
        rw [List.all_flatten, List.all_eq_true]
        intro y hy'
        obtain ⟨j, hj, rfl⟩ := List.mem_iff_getElem.1 hy'
        obtain ⟨v, _, hv⟩ := mx.at1 (List.getElem?_eq_getElem hj)
        exact hv.ones
      have hap : aappendAt e T.size ys.length xs.flatten (.sl id off zs.length T.size) h = some (.sl h.n 0 (zs.length + ys.length) T.size, (h.set id .dead).push (.cells (zx.flatten ++ xs.flatten) true 0 (some (e, false)))) := by
        simp only [aappendAt, if_neg h0y, hg]
        rw [if_pos ⟨trivial, hle, by omega, hones⟩, hseg]
        simp [tyApp]
      have M1 : VMem h0 X g H (S.os.set k' none) (h.set id .dead) := M.chg hos hH hhid (by rw [AH.set_n]; exact Nat.le_refl _) (fun j q hne hq => by rw [AH.get_set_ne hne]; exact hq)
      have hn' : (h.set id .dead).n = h.n := AH.set_n _ _ _
      have hlz := hzs.len
      have hzx := all_len hzs
      have fl1 := flat_len hzx
      have fl2 := flat_len hall
      have M2 := VMem.add (o := .row e T (zs ++ ys)) (x := .sl h.n 0 (zs.length + ys.length) T.size) M1 (h' := (h.set id .dead).push (.cells (zx.flatten ++ xs.flatten) true 0 (some (e, false)))) (by rw [AH.push_n]; omega) (fun j p hj => by rw [AH.get_push_ne (by have := AH.get_lt hj; omega)]; exact hj)
        (fun j hj => by cases hj; omega) (.inr ⟨h.n, 0, zx.flatten ++ xs.flatten, zx ++ xs, by rw [List.length_append], by rw [← hn']; exact AH.get_push_new _ _, by rw [List.length_append, List.length_append, Nat.add_mul]; rw [fl1, fl2, hlz, hln]; omega, by
          rw [List.drop_zero, List.take_of_length_le (by rw [List.length_append, List.length_append, Nat.add_mul, fl1, fl2, hlz, hln]; omega), List.flatten_append], hzs.append mx⟩)
      refine ⟨_, _, g, _, ⟨S.ts, S.os.set k' none ++ [some (.row e T (zs ++ ys))]⟩, .row S.os.length, hap, FM.le.refl g, Hpre.add H _, M2, E.mono (FM.le.refl g) (Hpre.add H _), ?_, hk⟩
      exact ⟨_, at_new M, rfl, .inr ⟨_, _, _, _, rfl⟩⟩
  -- none
  have non : ∀ (hk0 : k = none ∨ ∃ k' o, k = some k' ∧ S.os[k']? = some (some o) ∧ H[k']? = some nilS), u = nilS → zs = [] → Went h0 X g H env (aappend P ats [u, w] h) K r := fun hk0 hu hzs => by
    subst hu
    subst hzs
    rw [key (by rfl)]
    have Mk : VMem h0 X g H (rid S k) h := by
      rcases hk0 with rfl | ⟨k', o, rfl, _, _⟩
      · exact M
      · exact M.drop k'
    have hrl : (rid S k).length = S.os.length := by rcases hk0 with rfl | ⟨k', o, rfl, _, _⟩ <;> simp [rid]
    have Ek : EnvR g H (VS.mk S.ts (rid S k)).ts env := E
    by_cases h0y : ys.length = 0
    · obtain rfl := List.eq_nil_of_length_eq_zero h0y
      refine Went.add (S := ⟨S.ts, rid S k⟩) (x := nilS) (o := .row e T ([] ++ [])) (s := .row S.os.length) Mk Ek (h' := h) (by simp [aappendAt]) (Nat.le_refl _) (fun _ _ hq => hq) (fun id hi => by cases hi) (.inl ⟨rfl, rfl⟩) ?_ hk
      refine ⟨nilS, ?_, rfl, .inl rfl⟩
      exact at_new M
    · refine Went.add (S := ⟨S.ts, rid S k⟩) (x := .sl h.n 0 ys.length T.size) (o := .row e T ([] ++ ys)) (s := .row S.os.length) Mk Ek (h' := h.push (.cells xs.flatten true 0 (some (e, false)))) (by simp [aappendAt, h0y]) (by rw [AH.push_n]; omega) (fun j p hj => by rw [AH.get_push_ne (by have := AH.get_lt hj; omega)]; exact hj) (fun id hi => by cases hi; exact Nat.le_refl _) ?_ ?_ hk
      · have fl2 := flat_len hall
        refine .inr ⟨h.n, 0, xs.flatten, xs, by rw [List.nil_append], AH.get_push_new _ _, by rw [List.nil_append, ← hln]; omega, by rw [List.nil_append, List.drop_zero, ← hln, List.take_of_length_le (by omega)], mx⟩
      · exact ⟨_, at_new M, rfl, .inr ⟨_, _, _, _, rfl⟩⟩
  unfold baseOf at hb
  split at hb
  · cases hb
    cases hs
    exact non (.inl rfl) rfl rfl
  · rename_i k'
    split at hb
    · rename_i e' T' l hos
      split at hb
      · rename_i hee
        subst hee
        obtain ⟨l', hl', hq⟩ := Option.map_eq_some_iff.1 hb
        cases hq
        obtain ⟨rfl, rfl⟩ := asL_ok hl'
        obtain ⟨y, h1, e1, _⟩ := hs
        cases e1
        rcases M.so k' _ _ hos h1 with ⟨hu, hl⟩ | ⟨id, off, c, xs0, rfl, q1, q2, q3, q4⟩
        · exact non (.inr ⟨k', _, rfl, hos, by rw [← hu]; exact h1⟩) hu hl
        · exact blk (n := 0) (xs0 := []) hos h1 rfl rfl rfl q1 q2 q3 q4
      · cases hb
    · cases hb
  · rename_i k' a b'
    split at hb
    · rename_i e' T' l hos
      split at hb
      · rename_i hee
        subst hee
        obtain ⟨l', hl', hq⟩ := Option.map_eq_some_iff.1 hb
        cases hq
        obtain ⟨rfl, rfl⟩ := asL_ok hl'
        obtain ⟨p1, p2, ⟨id, off, n, sz, h1, h2, e1⟩ | ⟨h1, rfl, rfl, e1⟩⟩ := hs
        · cases e1
          rcases M.so k' _ _ hos h1 with ⟨hu, hl⟩ | ⟨id', off', c, xs0, e2, q1, q2, q3, q4⟩
          · cases hu
          · cases e2
            have hll : ((l.take b'.toNat).drop a.toNat).length = b'.toNat - a.toNat := by rw [List.length_drop, List.length_take, Nat.min_eq_left (by omega)]
            have m1 : b'.toNat * T'.size ≤ l.length * T'.size := Nat.mul_le_mul_right _ (by omega)
            have m2 : a.toNat * T'.size ≤ b'.toNat * T'.size := Nat.mul_le_mul_right _ (by omega)
            refine blk (n := 0) (xs0 := []) (zx := (xs0.take b'.toNat).drop a.toNat) hos h1 rfl rfl (by show AV.sl id _ _ _ = AV.sl id _ (List.length ((l.take b'.toNat).drop a.toNat)) _; rw [hll]) q1 (by show _ + List.length ((l.take b'.toNat).drop a.toNat) * _ ≤ _; rw [hll, Nat.sub_mul]; omega) ?_ ((q4.take _).drop _)
            show List.take (List.length ((l.take b'.toNat).drop a.toNat) * _) _ = _
            rw [hll]
            exact seg_sub (all_len q4) q4.len q3 (by omega) (by omega)
        · cases e1
          exact non (.inr ⟨k', _, rfl, hos, h1⟩) rfl (by show (l.take (Int.toNat 0)).drop (Int.toNat 0) = []; simp)
      · cases hb
    · cases hb
  · cases hb
end
end Go.Proofs.YtlpiiifmidehjaaDoorM
