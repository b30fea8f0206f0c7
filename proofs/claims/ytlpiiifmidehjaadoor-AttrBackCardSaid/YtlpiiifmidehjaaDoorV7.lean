/- The value machine: own slices that are frozen; new blocks, stores. -/
import Derived.Test.YtlpiiifmidehjaaDoorV6
set_option linter.unusedSimpArgs false
set_option linter.unusedVariables false
namespace Go.Proofs.YtlpiiifmidehjaaDoorM
open Go Go.RowKit

/-! ### What was one's own slice is a plain value from here on -/
def SV.sub (k : Nat) (T : Ty) (l : List T.D) : SV → SV
  | .row k' => if k' = k then .pv (.lst T) l else .row k'
  | .view k' a b => if k' = k then .pv (.lst T) (oTD l a b) else .view k' a b
  | .fn f a b => .fn f (a.sub k T l) (b.sub k T l)
  | .ifc t s => .ifc t (s.sub k T l)
  | .tup s => .tup (s.sub k T l)
  | .agg s => .agg (s.sub k T l)
  | .cn a b => .cn (a.sub k T l) (b.sub k T l)
  | s => s
def SO.sub (k : Nat) (T : Ty) (l : List T.D) : SO → SO
  | .obj t cs => .obj t (cs.sub k T l)
  | o => o
def frz (S : VS) (k : Nat) : VS :=
  match S.os[k]? with
  | some (some (.row _ T l)) => ⟨S.ts.map (SV.sub k T l), (S.os.map fun o => o.map (SO.sub k T l)).set k none⟩
  | _ => S
/-- The own slices in a value. -/
def SV.rows : SV → List Nat
  | .row k => [k]
  | .view k _ _ => [k]
  | .fn _ a b => a.rows ++ b.rows
  | .ifc _ s => s.rows
  | .tup s => s.rows
  | .agg s => s.rows
  | .cn a b => a.rows ++ b.rows
  | _ => []
def frzL (S : VS) (s : SV) : List Nat → VS × SV
  | [] => (S, s)
  | k :: ks => match S.os[k]? with
    | some (some (.row _ T l)) => frzL (frz S k) (s.sub k T l) ks
    | _ => frzL S s ks
/-- A value of a plain type; own slices in it are frozen. -/
def vpv {R : Type} (S : VS) (T : Ty) (s : SV) (K : VS → T.D → Option R) : Option R :=
  match toT T s with
  | some v => K S v
  | none => match toT T (frzL S s s.rows).2 with
    | some v => K (frzL S s s.rows).1 v
    | none => none

section
variable {R : Type} {m : Md R} {P : Program} {g g' : FM} {H : List AV} {env : List AV} {h h0 h' : AH} {X : List Nat} {S : VS}

theorem SV.okC_sub {k : Nat} {T : Ty} {l : List T.D} {s : SV} : (s.sub k T l).okC = s.okC := by
  cases s <;> simp only [SV.sub] <;> first | rfl | (split <;> rfl)
theorem SV.okL_sub {k : Nat} {T : Ty} {l : List T.D} : ∀ {s : SV}, s.okL = true → (s.sub k T l).okL = true
  | .nl, h => rfl
  | .cn a b, h => by
    simp only [SV.okL, Bool.and_eq_true, SV.sub, SV.okC_sub] at h ⊢
    exact ⟨h.1, SV.okL_sub h.2⟩

/-- What is told of the slot's slice, as plain values. -/
structure RowR (g : FM) (H : List AV) (k : Nat) (T : Ty) (l : List T.D) : Prop where
  row : ∀ x, H[k]? = some x → LR g (RepC g T) T.size x l
  sub : ∀ (a b : Int) (id off n sz : Nat), H[k]? = some (.sl id off n sz) → 0 ≤ a → a ≤ b → b ≤ n → LR g (RepC g T) T.size (.sl id (off + a.toNat * sz) (b.toNat - a.toNat) sz) ((l.take b.toNat).drop a.toNat)

theorem sub_ok {k : Nat} {T : Ty} {l : List T.D} (hg : g.le g') (hR : RowR g' H k T l) : ∀ {s : SV} {c : List AV}, SVL g H s c → SVL g' H (s.sub k T l) c
  | .row k', c, h => by
    unfold SV.sub
    obtain ⟨x, h1, rfl, h2⟩ := h
    split
    · rename_i e; subst e; exact ⟨x, rfl, x, rfl, hR.row x h1⟩
    · exact ⟨x, h1, rfl, h2⟩
  | .view k' a b, c, h => by
    unfold SV.sub
    split
    · rename_i e
      subst e
      obtain ⟨p1, p2, ⟨id, off, n, sz, h1, h2, rfl⟩ | ⟨h1, rfl, rfl, rfl⟩⟩ := h
      · exact ⟨_, rfl, _, rfl, hR.sub a b id off n sz h1 p1 p2 h2⟩
      · exact ⟨_, rfl, _, rfl, .inl ⟨rfl, by simp⟩⟩
    · exact h
  | .fn f a b, c, h => by obtain ⟨xs, ys, rfl, h1, h2⟩ := h; exact ⟨xs, ys, rfl, sub_ok hg hR h1, sub_ok hg hR h2⟩
  | .ifc t s, c, h => by obtain ⟨x, rfl, h1⟩ := h; exact ⟨x, rfl, sub_ok hg hR h1⟩
  | .tup s, c, h => by obtain ⟨x, rfl, h1⟩ := h; exact ⟨x, rfl, sub_ok hg hR h1⟩
  | .agg s, c, h => by obtain ⟨x, rfl, h1⟩ := h; exact ⟨x, rfl, sub_ok hg hR h1⟩
  | .cn a b, c, h => by obtain ⟨x, xs, rfl, h1, h2⟩ := h; exact ⟨x, xs, rfl, sub_ok hg hR h1, sub_ok hg hR h2⟩
  | .dead, c, h => h
  | .un, c, h => h
  | .con _, c, h => h
  | .kb _, c, h => h
  | .pv _ _, c, h => SVL.mono (s := .pv _ _) hg (Hpre.refl H) h
  | .ptr _ _, c, h => h
  | .ept _ _ _, c, h => h
  | .fpt _ _ _, c, h => SVL.mono (s := .fpt _ _ _) hg (Hpre.refl H) h
  | .gpt _ _ _, c, h => SVL.mono (s := .gpt _ _ _) hg (Hpre.refl H) h
  | .mp _, c, h => h
  | .nl, c, h => h

theorem frz_ok (M : VMem h0 X g H S.os h) {k : Nat} {e : TypeId} {T : Ty} {l : List T.D} (hk : S.os[k]? = some (some (.row e T l))) :
    ∃ g', g.le g' ∧ RowR g' H k T l ∧ VMem h0 X g' H (frz S k).os h := by
  obtain ⟨x, hx⟩ : ∃ x, H[k]? = some x := ⟨H[k]'(by rw [M.hl]; exact lt_at hk), List.getElem?_eq_getElem _⟩
  have so := M.so k _ _ hk hx
  have hos : (frz S k).os = (S.os.map fun o => o.map (SO.sub k T l)).set k none := by unfold frz; rw [hk]
  have key : ∀ g', g.le g' → g'.ok h → RowR g' H k T l → (∀ id c, g'.c id = some c → g'.b id ∨ id ∈ X ∨ h0.n ≤ id) → (∀ j o y id, j ≠ k → S.os[j]? = some (some o) → H[j]? = some y → hid y = some id → g'.c id = none ∧ g'.v id = none) → VMem h0 X g' H (frz S k).os h := fun g' hg hf hR hgx hn => by
    rw [hos]
    have old : ∀ {j o}, ((S.os.map fun o => o.map (SO.sub k T l)).set k none)[j]? = some (some o) → j ≠ k ∧ ∃ o', S.os[j]? = some (some o') ∧ o = o'.sub k T l := fun {j o} hj => by
      rcases set_at hj with ⟨_, e', _⟩ | ⟨hne, hj⟩
      · cases e'
      · rw [List.getElem?_map] at hj
        obtain ⟨q, h1, h2⟩ := Option.map_eq_some_iff.1 hj
        obtain ⟨o', rfl, rfl⟩ := Option.map_eq_some_iff.1 h2
        exact ⟨hne, o', h1, rfl⟩
    refine ⟨M.n, M.old, hf, by simp [M.hl], fun j o y h1 h2 => ?_, fun j o y i h1 h2 h3 => ?_, hgx, fun j o y j' o' y' i h1 h2 h3 h4 h5 h6 => ?_⟩
    · obtain ⟨hne, o', h1', rfl⟩ := old h1
      have hs := M.so j o' y h1' h2
      cases o' with
      | obj t cs => obtain ⟨id, c, rfl, k1, k2, k3⟩ := hs; exact ⟨id, c, rfl, k1, sub_ok hg hR k2, SV.okL_sub k3⟩
      | _ => exact hs.mono hg (Hpre.refl H)
    · obtain ⟨hne, o', h1', rfl⟩ := old h1
      exact ⟨(M.own j o' y i h1' h2 h3).1, hn j o' y i hne h1' h2 h3⟩
    · obtain ⟨_, o1, h1', rfl⟩ := old h1
      obtain ⟨_, o2, h3', rfl⟩ := old h3
      exact M.nd j o1 y j' o2 y' i h1' h2 h3' h4 h5 h6
  rcases so with ⟨rfl, rfl⟩ | ⟨id, off, c, xs, rfl, h1, h2, h3, h4⟩
  · refine ⟨g, FM.le.refl g, ?_, ?_⟩
    · refine ⟨fun x hx' => ?_, fun a b id off n sz hx' _ _ _ => ?_⟩
      · rw [hx] at hx'; cases hx'; exact .inl ⟨rfl, rfl⟩
      · rw [hx] at hx'; cases hx'
    · refine key g (FM.le.refl g) M.fz ?_ M.gx (fun j o y id hne a b c => (M.own j o y id a b c).2)
      refine ⟨fun x hx' => ?_, fun a b id off n sz hx' _ _ _ => ?_⟩
      · rw [hx] at hx'; cases hx'; exact .inl ⟨rfl, rfl⟩
      · rw [hx] at hx'; cases hx'
  · obtain ⟨_, n1, n2⟩ := M.own k _ _ id hk hx rfl
    have hg : g.le ⟨fun i => if i = id then some c else g.c i, g.v, g.b⟩ := ⟨fun i y hy => by
      show (if i = id then some c else g.c i) = some y
      rw [if_neg (fun e => by rw [e, n1] at hy; cases hy)]; exact hy, fun i y hy => hy, rfl⟩
    have hself : (⟨fun i => if i = id then some c else g.c i, g.v, g.b⟩ : FM).c id = some c := by simp
    have hR : RowR ⟨fun i => if i = id then some c else g.c i, g.v, g.b⟩ H k T l := by
      have h4' := h4.mono (fun c v => RepC.mono (t := T) (c := c) (v := v) hg)
      have hln := h4.len
      refine ⟨fun x hx' => ?_, fun a b id' off' n sz hx' p1 p2 p3 => ?_⟩
      · rw [hx] at hx'; cases hx'
        exact .inr ⟨id, off, rfl, .inr ⟨c, xs, hself, h2, h3, h4'⟩⟩
      · rw [hx] at hx'; cases hx'
        refine .inr ⟨id, off + a.toNat * T.size, ?_, .inr ⟨c, (xs.take b.toNat).drop a.toNat, hself, ?_, ?_, (h4'.take _).drop _⟩⟩
        · rw [List.length_drop, List.length_take, Nat.min_eq_left (by omega)]
        · rw [List.length_drop, List.length_take, Nat.min_eq_left (by omega), Nat.sub_mul]
          have : b.toNat * T.size ≤ l.length * T.size := Nat.mul_le_mul_right _ (by omega)
          have : a.toNat * T.size ≤ b.toNat * T.size := Nat.mul_le_mul_right _ (by omega)
          omega
        · rw [List.length_drop, List.length_take, Nat.min_eq_left (by omega)]
          exact seg_sub (all_len h4) hln h3 (by omega) (by omega)
    refine ⟨_, hg, hR, key _ hg ⟨fun i y hy => ?_, M.fz.2⟩ hR (fun i y hy => ?_) (fun j o y i hne a b d => ?_)⟩
    · simp only at hy
      split at hy
      · rename_i e'; subst e'; cases hy; exact ⟨_, _, _, h1⟩
      · exact M.fz.1 i y hy
    · simp only at hy
      split at hy
      · rename_i e'; subst e'; exact .inr (M.own k _ _ _ hk hx rfl).1
      · exact M.gx i y hy
    · obtain ⟨_, q1, q2⟩ := M.own j o y i a b d
      refine ⟨?_, q2⟩
      show (if i = id then some c else g.c i) = none
      rw [if_neg (fun e' => by subst e'; exact hne (M.nd j o y k _ _ i a b hk hx d rfl))]; exact q1

theorem frz_ts {k : Nat} {e : TypeId} {T : Ty} {l : List T.D} (hk : S.os[k]? = some (some (.row e T l))) : (frz S k).ts = S.ts.map (SV.sub k T l) := by unfold frz; rw [hk]

theorem frz_env (hg : g.le g') {k : Nat} {T : Ty} {l : List T.D} (hR : RowR g' H k T l) {ts : List SV} (E : EnvR g H ts env) : EnvR g' H (ts.map (SV.sub k T l)) env := by
  refine ⟨by simp [E.len], fun d s x h1 h2 => ?_⟩
  rw [List.getElem?_map] at h1
  obtain ⟨s', h3, rfl⟩ := Option.map_eq_some_iff.1 h1
  exact sub_ok hg hR (E.get d s' x h3 h2)

theorem frzL_ok : ∀ {ks : List Nat} {g : FM} {S : VS} {s : SV} {x : AV}, VMem h0 X g H S.os h → EnvR g H S.ts env → SVR g H s x →
    ∃ g', g.le g' ∧ VMem h0 X g' H (frzL S s ks).1.os h ∧ EnvR g' H (frzL S s ks).1.ts env ∧ SVR g' H (frzL S s ks).2 x
  | [], g, S, s, x, M, E, hr => ⟨g, FM.le.refl g, M, E, hr⟩
  | k :: ks, g, S, s, x, M, E, hr => by
    unfold frzL
    split
    · rename_i e T l hk
      obtain ⟨g1, hg, hR, M1⟩ := frz_ok M hk
      have E1 := frz_env hg hR E
      rw [← frz_ts hk] at E1
      obtain ⟨g2, hg2, q⟩ := frzL_ok (ks := ks) M1 E1 (sub_ok hg hR hr)
      exact ⟨g2, hg.trans hg2, q⟩
    · exact frzL_ok M E hr

theorem vpv_ok (M : VMem h0 X g H S.os h) (E : EnvR g H S.ts env) {T : Ty} {s : SV} {K : VS → T.D → Option R} {r : R} (hk : vpv S T s K = some r) {x : AV} (hr : SVR g H s x) :
    ∃ g' S' v, g.le g' ∧ VMem h0 X g' H S'.os h ∧ EnvR g' H S'.ts env ∧ RepV g' T x v ∧ K S' v = some r := by
  unfold vpv at hk
  split at hk
  · rename_i v hv
    exact ⟨g, S, v, FM.le.refl g, M, E, toT_ok hv hr, hk⟩
  · split at hk
    · rename_i v hv
      obtain ⟨g', h1, h2, h3, h4⟩ := frzL_ok (ks := s.rows) M E hr
      exact ⟨g', _, v, h1, h2, h3, toT_ok hv h4, hk⟩
    · cases hk

/-- What a step of the value machine comes to. -/
def Went (h0 : AH) (X : List Nat) (g : FM) (H : List AV) (env : List AV) (res : Option (AV × AH)) (K : VS → SV → Option R) (r : R) : Prop :=
  ∃ y h' g' H' S' s, res = some (y, h') ∧ g.le g' ∧ Hpre H H' ∧ VMem h0 X g' H' S'.os h' ∧ EnvR g' H' S'.ts env ∧ SVR g' H' s y ∧ K S' s = some r

theorem Went.same (M : VMem h0 X g H S.os h) (E : EnvR g H S.ts env) {res : Option (AV × AH)} {K : VS → SV → Option R} {r : R} {y : AV} {s : SV} (e : res = some (y, h)) (hs : SVR g H s y) (hk : K S s = some r) : Went h0 X g H env res K r :=
  ⟨y, h, g, H, S, s, e, FM.le.refl g, Hpre.refl H, M, E, hs, hk⟩
theorem Went.more {g1 : FM} (hg : g.le g1) {res : Option (AV × AH)} {K : VS → SV → Option R} {r : R} (w : Went h0 X g1 H env res K r) : Went h0 X g H env res K r := by
  obtain ⟨y, h', g', H', S', s, h1, h2, h3⟩ := w
  exact ⟨y, h', g', H', S', s, h1, hg.trans h2, h3⟩
/-- A step that makes a new slot. -/
theorem Went.new (M : VMem h0 X g H S.os h) (E : EnvR g H S.ts env) {res : Option (AV × AH)} {K : VS → SV → Option R} {r : R} {x : AV} {o : SO} {q : AO} {s : SV} (e : res = some (x, h.push q)) (hx : ∀ id, hid x = some id → h.n ≤ id) (ho : SOR g (H ++ [x]) (h.push q) o x)
    (hs : SVR g (H ++ [x]) s x) (hk : K ⟨S.ts, S.os ++ [some o]⟩ s = some r) : Went h0 X g H env res K r :=
  ⟨x, _, g, _, ⟨S.ts, S.os ++ [some o]⟩, s, e, FM.le.refl g, Hpre.add H x, M.add (by rw [AH.push_n]; omega) (fun j p hj => by rw [AH.get_push_ne (by have := AH.get_lt hj; omega)]; exact hj) hx ho, E.mono (FM.le.refl g) (Hpre.add H x), hs, hk⟩

/-! ### New blocks -/
def vbox (S : VS) (t : TypeId) (cs : Option SV) (K : VS → SV → Option R) : Option R :=
  match cs with
  | some cs => K ⟨S.ts, S.os ++ [some (.obj t cs)]⟩ (.ptr S.os.length 0)
  | none => none

theorem at_new {x : AV} (M : VMem h0 X g H S.os h) : (H ++ [x])[S.os.length]? = some x := by
  rw [← M.hl, List.getElem?_append_right (Nat.le_refl _), Nat.sub_self]; rfl

theorem vobj_ok (M : VMem h0 X g H S.os h) (E : EnvR g H S.ts env) {t : TypeId} {cs : SV} {l : List AV} (hl : SVL g H cs l) (ho : cs.okL = true) {K : VS → SV → Option R} {r : R} (hk : K ⟨S.ts, S.os ++ [some (.obj t cs)]⟩ (.ptr S.os.length 0) = some r) :
    Went h0 X g H env (some (anew t l h)) K r := by
  refine Went.new M E (x := .ptr h.n 0) (o := .obj t cs) (s := .ptr S.os.length 0) rfl (fun id hi => by cases hi; exact Nat.le_refl _) ⟨h.n, l, rfl, AH.get_push_new h _, hl.mono (FM.le.refl g) (Hpre.add H _), ho⟩ ⟨h.n, at_new M, rfl⟩ hk

theorem valloc_ok (M : VMem h0 X g H S.os h) (E : EnvR g H S.ts env) {cf : CallF} {t : TypeId} {K : VS → SV → Option R} {r : R} (hk : vbox S t (zeroS P t) K = some r) : Went h0 X g H env (aop P cf env (.alloc t) h) K r := by
  unfold vbox at hk
  split at hk
  · rename_i z hz
    obtain ⟨x, l, h1, h2, h3, h4⟩ := zeroS_ok (g := g) (H := H) hz
    simp only [aop, h1, h2, Option.map_some]
    exact vobj_ok M E h3 h4 hk
  · cases hk
theorem vbox_ok (M : VMem h0 X g H S.os h) (E : EnvR g H S.ts env) {cf : CallF} {t : TypeId} {a : Operand} {s : SV} (hs : SVR g H s (evalOp env a)) {K : VS → SV → Option R} {r : R} (hk : vbox S t (cellsSV s) K = some r) : Went h0 X g H env (aop P cf env (.box t a) h) K r := by
  unfold vbox at hk
  split at hk
  · rename_i z hz
    obtain ⟨l, h1, h2, h3, h4⟩ := cellsSV_ok hz hs
    simp only [aop, h1, Option.map_some]
    exact vobj_ok M E h2 h4 hk
  · cases hk

/-! ### Stores -/
def vstore (P : Program) (m : Md R) (S : VS) (t : TypeId) (a x : SV) (K : VS → SV → Option R) : Option R :=
  match a with
  | .ptr k off => match S.os[k]?, cellsSV x, szOf P t with
    | some (some (.obj T cs)), some xs, some n => if xs.len = n ∧ off + n ≤ cs.len then K ⟨S.ts, S.os.set k (some (.obj T (cs.spl off xs)))⟩ .un else none
    | _, _, _ => none
  | .ept k i o => match tyOf P t with
    | some T' => vpv S T' x fun S1 v => match S1.os[k]? with
      | some (some (.row e T l)) => vbind m T.dflt (idxL l i) fun w => match setT T w o T' v with
        | some w' => K ⟨S1.ts, S1.os.set k (some (.row e T (oSet l i w')))⟩ .un
        | none => none
      | _ => none
    | none => none
  | _ => none

theorem seg_splice {c : List AV} {off sz n : Nat} {xs : List (List AV)} (hx : ∀ x ∈ xs, x.length = sz) (hn : xs.length = n) (hb : off + n * sz ≤ c.length) (hs : (c.drop off).take (n * sz) = xs.flatten) {i o : Nat} {x ys : List AV} (hi : xs[i]? = some x) (ho : o + ys.length ≤ x.length) :
    ((splice c (off + i * sz + o) ys).drop off).take (n * sz) = (xs.set i (splice x o ys)).flatten := by
  have hin : i < xs.length := lt_at hi
  have hxl : x.length = sz := hx x (List.mem_of_getElem? hi)
  have hm : i * sz + sz ≤ n * sz := by rw [← Nat.succ_mul]; exact Nat.mul_le_mul_right _ (by omega)
  obtain ⟨g1, g2⟩ := seg_get hs hx hb hi (by omega)
  have hset : xs.set i (splice x o ys) = xs.take i ++ splice x o ys :: xs.drop (i + 1) := by
    rw [List.set_eq_take_append_cons_drop, if_pos hin]
  have f1 : (xs.take i).flatten = (c.drop off).take (i * sz) := by
    rw [take_flat hx, ← hs, List.take_take, Nat.min_eq_left (by omega)]
  have f2 : (xs.drop (i + 1)).flatten = ((c.drop off).take (n * sz)).drop (i * sz + sz) := by
    rw [drop_flat hx, ← hs, Nat.succ_mul]
  have hc : c = c.take off ++ (c.drop off) := (List.take_append_drop _ _).symm
  rw [hset, List.flatten_append, List.flatten_cons, f1, f2]
  have hsp : (splice c (off + i * sz + o) ys).drop off = (c.drop off).take (i * sz + o) ++ (ys ++ c.drop (off + i * sz + o + ys.length)) := by
    unfold splice
    rw [List.drop_append, List.drop_take]
    rw [show off - (c.take (off + i * sz + o)).length = 0 by rw [List.length_take]; omega, List.drop_zero]
    rw [show off + i * sz + o - off = i * sz + o by omega]
  rw [hsp]
  have hx' : splice x o ys = ((c.drop (off + i * sz)).take o) ++ (ys ++ ((c.drop (off + i * sz)).take sz).drop (o + ys.length)) := by
    unfold splice
    rw [← g2, List.take_take, Nat.min_eq_left (by omega)]
  rw [hx']
  have e1 : (c.drop off).take (i * sz + o) = (c.drop off).take (i * sz) ++ (c.drop (off + i * sz)).take o := by
    rw [List.take_add, List.drop_drop]
  rw [e1, List.append_assoc]
  rw [List.take_append]
  have l1 : ((c.drop off).take (i * sz)).length = i * sz := by rw [List.length_take, List.length_drop]; omega
  rw [List.take_of_length_le (l := (c.drop off).take (i * sz)) (by omega), l1]
  rw [List.take_append]
  have l2 : ((c.drop (off + i * sz)).take o).length = o := by rw [List.length_take, List.length_drop]; omega
  rw [List.take_of_length_le (l := (c.drop (off + i * sz)).take o) (by omega), l2]
  rw [List.take_append, List.take_of_length_le (l := ys) (by omega)]
  simp only [List.append_assoc]
  congr 3
  rw [List.drop_take, List.drop_take, List.drop_drop, List.drop_drop]
  rw [show off + i * sz + (o + ys.length) = off + i * sz + o + ys.length by omega]
  rw [show off + (i * sz + sz) = off + i * sz + o + ys.length + (sz - (o + ys.length)) by omega]
  have e2 : c.drop (off + i * sz + o + ys.length + (sz - (o + ys.length))) = (c.drop (off + i * sz + o + ys.length)).drop (sz - (o + ys.length)) := by rw [List.drop_drop]
  rw [e2]
  generalize c.drop (off + i * sz + o + ys.length) = d
  rw [show n * sz - i * sz - o - ys.length = (sz - (o + ys.length)) + (n * sz - (i * sz + sz)) by omega, List.take_add]

theorem vstore_ok (hm : m.real = true) (M : VMem h0 X g H S.os h) (E : EnvR g H S.ts env) {t : TypeId} {a x : SV} {K : VS → SV → Option R} {r : R} (hk : vstore P m S t a x K = some r) {y z : AV} (ha : SVR g H a y) (hx : SVR g H x z) :
    Went h0 X g H env ((astore P t y z h).map fun h' => (.undef, h')) K r := by
  unfold vstore at hk
  split at hk
  · rename_i k off
    split at hk
    · rename_i T cs xs n hos hxs hsz
      split at hk
      · rename_i hc
        obtain ⟨id, h1, e⟩ := ha
        cases e
        obtain ⟨id', c, e, h2, h3, h4⟩ := M.so k _ _ hos h1
        cases e
        obtain ⟨l, k1, k2, k3, k4⟩ := cellsSV_ok hxs hx
        have l1 := SVL.len (SV.okL_isL k4) k2
        have l2 := SVL.len (SV.okL_isL h4) h3
        obtain ⟨q1, q2⟩ := spl_ok h4 k4 h3 k2 (off := off) (by omega)
        have hst : astore P t (.ptr id off) z h = some (h.set id (.cells (splice c off l) true 0 (some (T, true)))) := by
          simp only [astore, h2, k1, hsz]
          rw [if_pos ⟨by omega, by omega, by omega, k3⟩]
        refine ⟨.undef, h.set id (.cells (splice c off l) true 0 (some (T, true))), g, H, ⟨S.ts, S.os.set k (some (.obj T (cs.spl off xs)))⟩, .un, by rw [hst]; rfl, FM.le.refl g, Hpre.refl H, ?_, E, rfl, hk⟩
        exact M.upd hos h1 rfl (by rw [AH.set_n]; exact Nat.le_refl _) (fun j q hne hq => by rw [AH.get_set_ne hne]; exact hq) ⟨id, _, rfl, AH.get_set_same h2, q1, q2⟩
      · cases hk
    · cases hk
  · rename_i k i o
    split at hk
    · rename_i T' hT
      obtain ⟨g1, S1, v, hg, M1, E1, hv, hk⟩ := vpv_ok M E hk hx
      split at hk
      · rename_i e T l hos
        obtain ⟨w, hw, hk⟩ := vbind_ok hm hk
        split at hk
        · rename_i w' hw'
          obtain ⟨p0, id, off, n, sz, h1, h2, e'⟩ := ha
          cases e'
          obtain ⟨cs, k1, k2⟩ := hv.cells
          obtain ⟨j0, j1, j2⟩ := idxL_lt hw
          rcases M1.so k _ _ hos h1 with ⟨e', _⟩ | ⟨id', off', c, xs, e', q1, q2, q3, q4⟩
          · cases e'
          · cases e'
            obtain ⟨xi, x1, x2⟩ := q4.at j2
            obtain ⟨s1, s2⟩ := setT_ok x2 k2 hw'
            have hall := all_len q4
            have hln := q4.len
            have hxl := hall xi (List.mem_of_getElem? x1)
            obtain ⟨b1, b2⟩ := seg_get q3 hall q2 x1 j1
            have hst : astore P t (.ptr id (off + i.toNat * T.size + o)) z h = some (h.set id (.cells (splice c (off + i.toNat * T.size + o) cs) true 0 (some (e, false)))) := by
              obtain ⟨z1, z2⟩ := tyOf_ok hT
              have := k2.len
              simp only [astore, q1, k1, z1]
              rw [if_pos ⟨by omega, by omega, by omega, k2.ones⟩]
            refine Went.more hg ⟨.undef, h.set id (.cells (splice c (off + i.toNat * T.size + o) cs) true 0 (some (e, false))), g1, H, ⟨S1.ts, S1.os.set k (some (.row e T (l.set i.toNat w')))⟩, .un, by rw [hst]; rfl, FM.le.refl g1, Hpre.refl H, ?_, E1, rfl, hk⟩
            refine M1.upd hos h1 rfl (by rw [AH.set_n]; exact Nat.le_refl _) (fun j q hne hq => by rw [AH.get_set_ne hne]; exact hq) (.inr ⟨id, off, _, xs.set i.toNat (splice xi o cs), by rw [List.length_set], AH.get_set_same q1, ?_, ?_, q4.set _ s2⟩)
            · rw [List.length_set, splice_len (by omega)]; exact q2
            · rw [List.length_set]
              exact seg_splice hall hln q2 q3 x1 s1
        · cases hk
      · cases hk
    · cases hk
  · cases hk
end
end Go.Proofs.YtlpiiifmidehjaaDoorM
