/- slices.SortFunc of texts, by the kit's contract: the comparison is a function that the chain knows. -/
import Derived.Test.YtglcbikbmobdpaaDoorVC
import Derived.Shelf.SlSortCmp.NoneTotal
set_option linter.unusedSimpArgs false
set_option linter.unusedVariables false
namespace Go.Proofs.YtglcbikbmobdpaaDoorM
open Go Go.RowKit

section
variable {P : Program} {B : Nat}
theorem enter_eq {f : FuncId} {fn : Func} {c : Code} (hf : P.funcs[f]? = some fn) (hb : fn.body = some c) (hn : (fn.name == "runtime.NumGoroutine") = false) (args : Array Value) (w : World) : (callFunc f args).run P w = .ok (.enter f args) w := by
  unfold callFunc
  simp only [Sem.run_bind, run_program, Result.andThen_ok, hf, hn, Bool.false_eq_true, if_false, hb, Option.isNone_some, Sem.run_pure]

/-- A comparison of two texts, in any world that has the variables. -/
theorem cmp_calls {gl : List GVar} {W : Aw} {K : PureK} {N : List FuncId} {es0 es : List VEnt} (C : Ch P gl W K N es0 es) {f : FuncId} {F : (Sh.mk [.pv .str, .pv .str] []).D → Option (AltD [⟨[.pv (.int .i64)], []⟩])}
    (he : (⟨f, ⟨[.pv .str, .pv .str], []⟩, [⟨[.pv (.int .i64)], []⟩], F⟩ : VEnt) ∈ es) {x y : List UInt8} {c : Int} (hF : F (x, y, ()) = some (c, ())) {hg : AH}
    (hgl : ∀ x ∈ gl, x.t.flat = true ∧ hg.get x.g = some (.gvar x.g (x.l.map (encC x.t)).flatten)) (hG : GHeap hg) (hm : P.follows .mixedOrders = true) (hN : P.funcs.all (fun fn => !(fn.name == "runtime.NumGoroutine")) = true)
    {fn : Func} {c0 : Code} (hf : P.funcs[f]? = some fn) (hb : fn.body = some c0) (hn : (fn.name == "runtime.NumGoroutine") = false) {φ : Nat → Loc} {w : World} (r : Rel B φ hg w) :
    Calls P f #[.string ⟨⟨x⟩⟩, .string ⟨⟨y⟩⟩] w fun e w' => e = .returned (.int .i64 c) ∧ Below w.heap.size w w' ∧ w.drawn ≤ w'.drawn := by
  obtain ⟨d, hd⟩ := C.e1 _ K C.self _ he
  have hok : (gMof hg).ok hg := ⟨fun id c hc => (by cases hc), fun id c hc => by
    have hc : (match hg.get id with | some (.gvar _ c) => some c | _ => none) = some c := hc
    split at hc
    · rename_i j c' hj
      cases hc
      obtain ⟨c2, e2, _⟩ := hG id _ hj
      cases e2
      exact hj
    · cases hc⟩
  have hGO : GOK (gMof hg) gl := fun x hx => by
    obtain ⟨h1, h2⟩ := hgl x hx
    refine ⟨x.l.map (encC x.t), ?_, all2_ofEnc h1 _⟩
    show (match hg.get x.g with | some (.gvar _ c) => some c | _ => none) = _
    rw [h2]
  have M : VMem hg [] (gMof hg) [] ((Sh.mk [.pv .str, .pv .str] []).unp (x, y, ())).os hg :=
    ⟨Nat.le_refl _, fun _ _ _ hk => hk, hok, rfl, fun k o x h1 => by simp [Sh.unp, ounpL] at h1, fun k o x id h1 => by simp [Sh.unp, ounpL] at h1, fun id c hc => .inl trivial, fun k o x k' o' x' id h1 => by simp [Sh.unp, ounpL] at h1⟩
  have E : EnvR (gMof hg) [] [SV.pv .str x, SV.pv .str y] [.str x, .str y] := ⟨rfl, fun d s z k1 k2 => by
    rcases d with _ | _ | d
    · cases k1; cases k2; exact ⟨_, rfl, rfl⟩
    · cases k1; cases k2; exact ⟨_, rfl, rfl⟩
    · simp at k1⟩
  obtain ⟨v, h', g', H', S', r1, r2, r3, r4, r5, r6⟩ := hd _ (Nat.le_refl _) [] (gMof hg) [] [.str x, .str y] hg (x, y, ()) (c, ()) hGO hF M E
  have hS' : (Sh.mk [.pv (.int .i64)] []).unp (c, ()) = S' := by
    have := r6 (fun S => some S)
    exact Option.some.inj this
  subst hS'
  have hr : SVR g' H' (.pv (.int .i64) c) v := r5.get 0 _ v rfl rfl
  obtain ⟨z, hz, hr⟩ := hr
  cases hz
  have hv : v = .int .i64 c := by have := hr.c1 rfl; simpa [RepC] using this
  subst hv
  have ha : VRs hg.ok φ [.str x, .str y] [.string ⟨⟨x⟩⟩, .string ⟨⟨y⟩⟩] := VRs.cons (.str _) (VRs.cons (.str _) (VRs.nil _ _))
  have := call_sound (hooksW_ok (C.wok _) (C.ok _)) (drawnOf_ok hm (C.ok _).tab) hN _ f _ hg _ h' r1 φ w _ r ha
  rw [enter_eq hf hb hn] at this
  refine Calls.mono this ?_
  rintro e w' ⟨v, rfl, φ', hv, r', s'⟩
  cases hv
  refine ⟨rfl, ⟨s'.os, s'.tape, s'.output, s'.size, fun k hk => s'.frame k hk fun id o hg hoo => ?_⟩, s'.dr⟩
  obtain ⟨c2, rfl, _⟩ := hG id o hg
  cases hoo

theorem below_grow {w w' : World} (b : Below w.heap.size w w') (hd : w.drawn ≤ w'.drawn) : ∃ q os', w' = Sort.grow (w.drewN q) os' := by
  refine ⟨w'.drawn - w.drawn, w'.heap.extract w.heap.size w'.heap.size, ?_⟩
  obtain ⟨hp, tp, dn, os, ou⟩ := w
  obtain ⟨hp', tp', dn', os', ou'⟩ := w'
  obtain ⟨b1, b2, b3, b4, b5⟩ := b
  simp only at b1 b2 b3 b4 b5 hd
  subst b1; subst b2; subst b3
  unfold Sort.grow World.drewN
  simp only [World.mk.injEq, true_and, and_true]
  refine ⟨?_, by omega⟩
  apply Array.ext_getElem?
  intro k
  rw [Array.getElem?_append]
  by_cases hk : k < hp.size
  · rw [if_pos hk]; exact b5 k hk
  · rw [if_neg hk, Array.getElem?_extract]
    by_cases h2 : k < hp'.size
    · rw [if_pos (by simp; omega), show hp.size + (k - hp.size) = k by omega]
    · rw [if_neg (by simp; omega), Array.getElem?_eq_none (by omega)]

/-! ### The row, sorted -/
def strsOf : List AV → Option (List (List UInt8))
  | [] => some []
  | .str s :: r => (strsOf r).map fun l => s :: l
  | _ => none
theorem strsOf_at : ∀ {cs : List AV} {l : List (List UInt8)}, strsOf cs = some l → cs.length = l.length ∧ ∀ (j : Nat) (s : List UInt8), l[j]? = some s → cs[j]? = some (.str s)
  | [], l, h => by cases h; exact ⟨rfl, fun j s hj => by simp at hj⟩
  | .str s :: r, l, h => by
    obtain ⟨l', h1, rfl⟩ := Option.map_eq_some_iff.1 h
    obtain ⟨h2, h3⟩ := strsOf_at h1
    refine ⟨by simp [h2], fun j t hj => ?_⟩
    cases j with
    | zero => simp at hj; subst hj; rfl
    | succ j => simpa using h3 j t (by simpa using hj)
  | .int _ _ :: _, _, h => by cases h
  | .bool _ :: _, _, h => by cases h
  | .val _ :: _, _, h => by cases h
  | .ptr _ _ :: _, _, h => by cases h
  | .sl _ _ _ _ :: _, _, h => by cases h
  | .map _ :: _, _, h => by cases h
  | .iface _ _ :: _, _, h => by cases h
  | .agg _ :: _, _, h => by cases h
  | .tup _ :: _, _, h => by cases h
  | .func _ _ _ :: _, _, h => by cases h
  | .any :: _, _, h => by cases h
theorem strs_rep {g : FM} : ∀ {xs : List (List AV)} {l : List (List UInt8)}, All2 (RepC g .str) xs l → strsOf xs.flatten = some l
  | [], [], _ => rfl
  | x :: xs, s :: l, h => by
    obtain ⟨h1, h2⟩ := h
    cases (show x = [.str s] from h1)
    show (strsOf xs.flatten).map _ = _
    rw [strs_rep h2]; rfl
  | [], _ :: _, h => h.elim
  | _ :: _, [], h => h.elim

abbrev ST : Type := {x : List UInt8 // x.length ≤ 100000}
instance : Inhabited ST := ⟨⟨[], Nat.zero_le _⟩⟩
def encT (x : ST) : Value := .string ⟨⟨x.1⟩⟩
def cfT (cf : List UInt8 → List UInt8 → Int) (x y : ST) : Int := cf x.1 y.1
def sortT (cf : List UInt8 → List UInt8 → Int) (l : List (List UInt8)) : List (List UInt8) := sortC cf l
theorem swo_of {cf : List UInt8 → List UInt8 → Int} (h : OrdC cf) : Sort.SWO (ltOf (cfT cf)) := by
  have tr := h.trans
  have key : ∀ x y, cf x y < 0 ↔ cf x y = -1 := fun x y => by rcases h.val x y with e | e | e <;> omega
  refine ⟨fun x => ?_, fun x y z h1 h2 => ?_, fun x y z h1 h2 => ?_⟩
  · have := h.refl x.1
    unfold ltOf cfT; rw [this]; rfl
  · unfold ltOf cfT at *
    rw [decide_eq_true_eq, key] at *
    exact tr _ _ _ h1 h2
  · unfold ltOf cfT at *
    rw [decide_eq_false_iff_not, key] at *
    intro h3
    -- x < z, not x < y, not y < z
    rcases h.val y.1 z.1 with e | e | e
    · exact h2 e
    · have := (h.eq _ _).1 e; rw [this] at h1; exact h1 h3
    · have h4 : cf z.1 y.1 = -1 := by rw [h.anti]; omega
      exact h1 (tr _ _ _ h3 h4)
theorem part_of {cf : List UInt8 → List UInt8 → Int} (h : OrdC cf) : ∀ x y : ST, ltOf (cfT cf) x y = false → ltOf (cfT cf) y x = false → x = y := by
  intro x y h1 h2
  unfold ltOf cfT at h1 h2
  rw [decide_eq_false_iff_not] at h1 h2
  apply Subtype.ext
  apply (h.eq _ _).1
  have := h.anti x.1 y.1
  rcases h.val x.1 y.1 with e | e | e <;> omega

noncomputable def sortHook (hg : AH) (fc : FuncId) (cf : List UInt8 → List UInt8 → Int) (args : List AV) (h : AH) : Option (AV × AH) := by
  classical exact
  match args with
  | [.val (.slice none 0 _), .func (.func _) _ _] => some (.undef, h)
  | [.sl id off len sz, .func (.func f') [] []] =>
    if f' = fc ∧ sz = 1 ∧ (∀ id o, hg.get id = some o → h.get id = some o) then
      if len = 0 then some (.undef, h) else
      match h.get id with
      | some (.cells c true fz ty) => match strsOf ((c.drop off).take len) with
        | some l => if off + len ≤ c.length ∧ fz ≤ off ∧ (∀ x ∈ l, x.length ≤ 100000) ∧ len ≤ 1000000 then some (.undef, h.set id (.cells (splice c off ((sortT cf l).map .str)) true fz ty)) else none
        | none => none
      | _ => none
    else none
  | _ => none

theorem Rel.grow {φ : Nat → Loc} {h : AH} {w : World} (r : Rel B φ h w) (os : Array Obj) : Rel B φ h (Sort.grow w os) ∧ Step φ h w φ h (Sort.grow w os) := by
  have keep : ∀ k, k < w.heap.size → (Sort.grow w os).heap[k]? = w.heap[k]? := fun k hk => by
    show (w.heap ++ os)[k]? = _
    rw [Array.getElem?_append, if_pos hk]
  have hsz : w.heap.size ≤ (Sort.grow w os).heap.size := by show _ ≤ (w.heap ++ os).size; simp
  refine ⟨⟨fun id o hg => ?_, r.base, r.sep, Nat.le_trans r.bs hsz⟩, ⟨rfl, rfl, rfl, hsz, Nat.le_refl _, fun _ hk => hk, fun _ _ => rfl, fun k hk _ => keep k hk, fun id o hg ho => .inr ⟨id, o, hg, ho, rfl⟩, Nat.le_refl _⟩⟩
  cases hl : o.live with
  | false => cases o <;> first | trivial | cases hl
  | true => rw [keep _ (r.lt hg hl)]; exact r.obj id o hg
theorem putRow_turned {α : Type} [Inhabited α] (enc : α → Value) (w : World) (n blk off : Nat) (d : Array α) : Turned w (Sort.putRow enc (Sort.ahead w n) blk off d) blk :=
  ⟨rfl, rfl, rfl, by simp [Sort.putRow, Sort.mapBlock, Sort.ahead], fun k hk => by simp [Sort.putRow, Sort.mapBlock, Sort.ahead, Array.getElem?_modify, Ne.symm hk], Nat.le_add_right _ _⟩
theorem putRow_at {α : Type} [Inhabited α] (enc : α → Value) (w : World) (n blk off : Nat) (d : Array α) {C : Array Value} {e : TypeId} {f : Nat × Nat} (h : w.heap[blk]? = some (.cells C e f)) :
    (Sort.putRow enc (Sort.ahead w n) blk off d).heap[blk]? = some (.cells (Sort.putCells enc off d C) e f) := by
  simp [Sort.putRow, Sort.mapBlock, Sort.ahead, Array.getElem?_modify, h, Sort.onCells]
theorem splice_at {c : List AV} {off : Nat} {xs : List AV} (h : off + xs.length ≤ c.length) (i : Nat) : (splice c off xs)[i]? = if off ≤ i ∧ i < off + xs.length then xs[i - off]? else c[i]? := by
  unfold splice
  by_cases h1 : i < off
  · rw [if_neg (by omega), List.getElem?_append_left (by simp; omega), List.getElem?_take_of_lt h1]
  · rw [List.getElem?_append_right (by simp; omega)]
    have e : i - (c.take off).length = i - off := by simp; omega
    rw [e]
    by_cases h2 : i < off + xs.length
    · rw [if_pos ⟨by omega, h2⟩, List.getElem?_append_left (by omega)]
    · rw [if_neg (by omega), List.getElem?_append_right (by omega), List.getElem?_drop]
      congr 1; omega
theorem sortT_len (cf : List UInt8 → List UInt8 → Int) (l : List (List UInt8)) : (sortT cf l).length = l.length := sortC_len l

/-- The hook of a SortFunc is right. -/
theorem sort_ok {gl : List GVar} {W : Aw} {K : PureK} {N : List FuncId} {es0 es : List VEnt} (C : Ch P gl W K N es0 es) {fc : FuncId} {F : (Sh.mk [.pv .str, .pv .str] []).D → Option (AltD [⟨[.pv (.int .i64)], []⟩])}
    (he : (⟨fc, ⟨[.pv .str, .pv .str], []⟩, [⟨[.pv (.int .i64)], []⟩], F⟩ : VEnt) ∈ es) {cf : List UInt8 → List UInt8 → Int} (hO : OrdC cf) (hF : ∀ x y : List UInt8, x.length ≤ 100000 → y.length ≤ 100000 → F (x, y, ()) = some (cf x y, ())) {hg : AH}
    (hgl : ∀ x ∈ gl, x.t.flat = true ∧ hg.get x.g = some (.gvar x.g (x.l.map (encC x.t)).flatten)) (hG : GHeap hg) (hm : P.follows .mixedOrders = true) (hN : P.funcs.all (fun fn => !(fn.name == "runtime.NumGoroutine")) = true)
    {fn : Func} {c0 : Code} (hf : P.funcs[fc]? = some fn) (hb : fn.body = some c0) (hn : (fn.name == "runtime.NumGoroutine") = false)
    {f : FuncId} {gn : Func} {c1 : Code} (hf1 : P.funcs[f]? = some gn) (hb1 : gn.body = some c1) (hn1 : (gn.name == "runtime.NumGoroutine") = false)
    (h0 : ∀ (p : Option Addr) (cap : Nat) (fv : Value) (w : World), Calls P f #[.slice p 0 cap, fv] w fun e w' => e = .returned (.tuple #[]) ∧ w' = w)
    (h1 : ∀ (blk off cap : Nat) (d : Array ST) (w : World), CmpLays1 P fc #[] encT (cfT cf) blk off d.size w → Sort.Holds encT w blk off d → blk < w.heap.size → d.size < 4611686018427387904 →
      Calls P f #[.slice (some ⟨blk, off, none⟩) d.size cap, .func (.func fc) #[] #[]] w fun e w' => e = .returned (.tuple #[]) ∧ ∃ n os, w' = sortWorld encT w blk off n (d.toList.mergeSort fun x y => !(ltOf (cfT cf)) y x).toArray os) :
    HookOK P B f (sortHook hg fc cf) := by
  intro args h v h' hr φ w args' r ha
  rw [enter_eq hf1 hb1 hn1]
  show Calls P f args'.toArray w _
  unfold sortHook at hr
  split at hr
  · obtain ⟨v1, r1, rfl, k1, ha⟩ := ha.inv_cons
    obtain ⟨v2, r2, rfl, k2, ha⟩ := ha.inv_cons
    obtain rfl := ha.inv_nil
    cases hr
    cases k1
    refine (h0 none _ v2 w).mono ?_
    rintro e w' ⟨rfl, rfl⟩
    exact ⟨_, rfl, φ, .tup [] #[] rfl (fun i x v hx => by simp at hx), r, Step.refl _ _ _⟩
  · rename_i id off len sz f'
    split at hr
    rotate_left
    · cases hr
    rename_i hc
    obtain ⟨rfl, rfl, hs⟩ := hc
    obtain ⟨v1, r1, rfl, k1, ha⟩ := ha.inv_cons
    obtain ⟨v2, r2, rfl, k2, ha⟩ := ha.inv_cons
    obtain rfl := ha.inv_nil
    cases k1 with
    | sl _ _ _ _ a cap hid hlc hac =>
    split at hr
    · rename_i hl0
      subst hl0
      cases hr
      refine (h0 (some a) cap v2 w).mono ?_
      rintro e w' ⟨rfl, rfl⟩
      exact ⟨_, rfl, φ, .tup [] #[] rfl (fun i x v hx => by simp at hx), r, Step.refl _ _ _⟩
    rename_i hl0
    split at hr
    rotate_left
    · cases hr
    rename_i c fz ty hg1
    split at hr
    rotate_left
    · cases hr
    rename_i l hl
    split at hr
    rotate_left
    · cases hr
    rename_i hcond
    obtain ⟨q1, q2, q3, q4⟩ := hcond
    cases hr
    rcases hac with hc0 | ⟨rfl, hcn⟩
    · omega
    obtain ⟨CC, e, lo, hi, o1, o2, o3, o4, o5, o6⟩ := r.obj _ _ hg1
    obtain ⟨t1, t2⟩ := strsOf_at hl
    have hll : l.length = len := by rw [← t1]; simp; omega
    have hv2 : v2 = .func (.func f') #[] #[] := by
      cases k2 with
      | func _ _ _ us vs hl1 hl2 _ _ =>
        have e1 : us = #[] := Array.eq_empty_of_size_eq_zero (by rw [← hl1]; rfl)
        have e2 : vs = #[] := Array.eq_empty_of_size_eq_zero (by rw [← hl2]; rfl)
        rw [e1, e2]
    subst hv2
    have hlt := r.lt hg1 rfl
    let dl : List ST := l.attach.map fun x => ⟨x.1, q3 x.1 x.2⟩
    have hdv : dl.map (·.1) = l := by
      show (l.attach.map _).map _ = l
      rw [List.map_map]
      exact List.attach_map_subtype_val l
    have hdl : dl.length = len := by rw [← hll, ← hdv]; simp
    have hsort : (dl.mergeSort fun x y => !(ltOf (cfT cf)) y x).map (·.1) = sortT cf l := by
      unfold sortT; rw [← merge_sortC hO]
      rw [← hdv]
      exact List.map_mergeSort (fun a _ b _ => rfl)
    have hH : Sort.Holds encT w (φ id).b ((φ id).o + off) dl.toArray := by
      intro j hj
      have hj : j < dl.length := by simpa using hj
      have hjl : j < l.length := by omega
      have ex : dl.toArray[j]! = dl[j] := by rw [getElem!_pos dl.toArray j (by simpa using hj)]; simp
      have ev : dl[j].1 = l[j] := by
        have h1 : (dl.map (·.1))[j]? = l[j]? := by rw [hdv]
        rw [List.getElem?_map, List.getElem?_eq_getElem hj, List.getElem?_eq_getElem hjl] at h1
        exact Option.some.inj h1
      have h3 := t2 j l[j] (List.getElem?_eq_getElem hjl)
      rw [List.getElem?_take, if_pos (by omega), List.getElem?_drop] at h3
      obtain ⟨v, hv, hvr⟩ := o4 _ _ h3
      rw [ex]
      refine ⟨?_, ?_⟩
      · rw [cell_at o1, show (φ id).o + off + j = (φ id).o + (off + j) by omega, hv, hvr.inv_str]
        show _ = some (Value.string ⟨⟨dl[j].1⟩⟩)
        rw [ev]
      · have hC : (φ id).o + (off + j) < CC.size := (Array.getElem?_eq_some_iff.1 hv).1
        exact frozen_at o1 _ (by rw [show (φ id).o + off + j = (φ id).o + (off + j) by omega]; exact o5 rfl _ (by omega) hC)
    have hcmp : CmpLays1 P f' #[] encT (cfT cf) (φ id).b ((φ id).o + off) dl.toArray.size w := by
      intro m os dk hdk x y
      have rg : Rel B φ hg w := r.subG hG hs
      have hne : ∀ k o, hg.get k = some o → (φ k).b ≠ (φ id).b ∧ (φ k).b < w.heap.size := fun k o hk => by
        obtain ⟨cc, rfl, _⟩ := hG k o hk
        refine ⟨fun e => ?_, r.lt (hs _ _ hk) rfl⟩
        have := r.sep id k _ _ hg1 (hs _ _ hk) rfl rfl e.symm
        subst this
        rw [hs _ _ hk] at hg1
        cases hg1
      have hk2 : ∀ k, k < w.heap.size → k ≠ (φ id).b → (sortWorld encT w (φ id).b ((φ id).o + off) m dk os).heap[k]? = w.heap[k]? := fun k hk hne => by
        show ((Sort.putRow encT (Sort.ahead w m) (φ id).b ((φ id).o + off) dk).heap ++ os)[k]? = _
        have hsz := (putRow_turned encT w m (φ id).b ((φ id).o + off) dk).size
        rw [Array.getElem?_append, if_pos (by omega)]
        exact (putRow_turned encT w m (φ id).b ((φ id).o + off) dk).other k hne
      have rW : Rel B φ hg (sortWorld encT w (φ id).b ((φ id).o + off) m dk os) := by
        refine ⟨fun k o hk => ?_, rg.base, rg.sep, ?_⟩
        · obtain ⟨k1, k2⟩ := hne k o hk
          rw [hk2 _ k2 k1]; exact rg.obj k o hk
        · have hsz := (putRow_turned encT w m (φ id).b ((φ id).o + off) dk).size
          have : (sortWorld encT w (φ id).b ((φ id).o + off) m dk os).heap.size = (Sort.putRow encT (Sort.ahead w m) (φ id).b ((φ id).o + off) dk).heap.size + os.size := by
            show ((Sort.putRow encT (Sort.ahead w m) (φ id).b ((φ id).o + off) dk).heap ++ os).size = _
            simp
          have := r.bs
          omega
      have hcl := cmp_calls C he (hF x.1 y.1 x.2 y.2) hgl hG hm hN hf hb hn rW
      refine Calls.mono hcl ?_
      rintro e w' ⟨rfl, bl, hd⟩
      exact ⟨rfl, below_grow bl hd⟩
    have hcall := h1 (φ id).b ((φ id).o + off) cap dl.toArray w hcmp hH hlt (by simp; omega)
    have hsz2 : dl.toArray.size = len := by simpa using hdl
    rw [hsz2] at hcall
    refine Calls.mono hcall ?_
    rintro e2 w' ⟨rfl, n, os, rfl⟩
    generalize hD : (dl.toArray.toList.mergeSort fun x y => !(ltOf (cfT cf)) y x) = D
    have hD : (dl.mergeSort fun x y => !(ltOf (cfT cf)) y x) = D := hD
    have hDl : D.length = len := by rw [← hD]; simpa using hdl
    have hDs : D.map (·.1) = sortT cf l := by rw [← hD]; exact hsort
    have hspl : ((sortT cf l).map AV.str).length = len := by simp [sortT_len, hll]
    have tw := putRow_turned encT w n (φ id).b ((φ id).o + off) D.toArray
    have hup := r.update hg1 rfl tw (.cells (splice c off ((sortT cf l).map .str)) true fz ty) (by
      refine ⟨Sort.putCells encT ((φ id).o + off) D.toArray CC, e, lo, hi, putRow_at encT w n _ _ _ o1, by simpa [Sort.putCells] using o2, by rw [splice_len (by omega)]; simpa [Sort.putCells] using o3, fun i x hx => ?_, fun hw i k1 k2 => o5 hw i k1 (by simpa [Sort.putCells] using k2), fun t b hb => ?_⟩
      · rw [splice_at (by omega)] at hx
        have hci : i < c.length := by
          split at hx
          · omega
          · exact (List.getElem?_eq_some_iff.1 hx).1
        obtain ⟨v0, hv0, hr0⟩ := o4 i c[i] (List.getElem?_eq_getElem hci)
        have hp : (Sort.putCells encT ((φ id).o + off) D.toArray CC)[(φ id).o + i]? = some (if (φ id).o + off ≤ (φ id).o + i ∧ (φ id).o + i < (φ id).o + off + D.toArray.size then encT D.toArray[(φ id).o + i - ((φ id).o + off)]! else v0) := by
          unfold Sort.putCells
          rw [Array.getElem?_mapIdx, hv0]; rfl
        refine ⟨_, hp, ?_⟩
        split at hx
        · rename_i hin
          rw [hspl] at hin
          rw [if_pos (by simp; omega), show (φ id).o + i - ((φ id).o + off) = i - off by omega]
          have hid2 : i - off < D.length := by omega
          rw [getElem!_pos D.toArray (i - off) (by simpa using hid2)]
          rw [List.getElem?_map, ← hDs, List.getElem?_map, List.getElem?_eq_getElem hid2] at hx
          cases hx
          simp only [List.getElem_toArray]
          exact .str _
        · rename_i hin
          rw [hspl] at hin
          rw [if_neg (by simp; omega)]
          rw [List.getElem?_eq_getElem hci] at hx
          cases hx
          exact hr0
      · obtain ⟨k1, k2⟩ := o6 t b hb
        exact ⟨k1, fun hb => by rw [splice_len (by omega)]; exact k2 hb⟩)
    obtain ⟨ru, su⟩ := hup
    obtain ⟨rg, sg⟩ := ru.grow os
    exact ⟨_, rfl, φ, .tup [] #[] rfl (fun i x v hx => by simp at hx), rg, su.trans sg⟩
  · cases hr
end

/-! ### The entry -/
def F_sort (cf : List UInt8 → List UInt8 → Int) (l : List (List UInt8)) : Option (List (List UInt8) × Unit) := if l.length ≤ 1000000 ∧ ∀ x ∈ l, x.length ≤ 100000 then some (sortT cf l, ()) else none
def eSort (f fc : FuncId) (e : TypeId) (cf : List UInt8 → List UInt8 → Int) : VEnt := ⟨f, ⟨[.row 0, .fn fc .nl .nl], [.row e .str]⟩, [⟨[.un], [.row e .str]⟩], fun q => F_sort cf q.1⟩
theorem splice_seg {c : List AV} {off : Nat} {xs : List AV} (h : off + xs.length ≤ c.length) : ((splice c off xs).drop off).take xs.length = xs := by
  unfold splice
  rw [List.drop_append_of_le_length (by simp; omega), List.drop_of_length_le (by simp; omega), List.nil_append, List.take_append_of_le_length (Nat.le_refl _), List.take_length]
theorem rep_strs {g : FM} : ∀ l : List (List UInt8), All2 (RepC g .str) (l.map fun s => [AV.str s]) l
  | [] => trivial
  | s :: l => ⟨rfl, rep_strs l⟩
theorem flat_strs (l : List (List UInt8)) : (l.map fun s => [AV.str s]).flatten = l.map .str := by
  induction l with
  | nil => rfl
  | cons s l ih => simp only [List.map_cons, List.flatten_cons, ih]; rfl
theorem sort_sound {P : Program} {gl : List GVar} {hg : AH} (hgl : ∀ id o, hg.get id = some o → ∃ x ∈ gl, x.g = id ∧ x.t.flat = true ∧ o = .gvar id (x.l.map (encC x.t)).flatten) {Γ : Hooks} {D : Drawn} {f fc : FuncId} {e : TypeId} {cf : List UInt8 → List UInt8 → Int}
    (hf : Γ f = some (sortHook hg fc cf)) (n : Nat) : SoundE gl (acall P Γ D n) (eSort f fc e cf) := by
  intro X g H args h p q hG hq M E
  obtain ⟨l, u⟩ := p
  have hq : F_sort cf l = some q := hq
  unfold F_sort at hq
  split at hq
  rotate_left
  · cases hq
  rename_i hb
  cases hq
  have M : VMem h X g H [some (.row e .str l)] h := M
  have E : EnvR g H [.row 0, .fn fc .nl .nl] args := E
  obtain ⟨x, r1, rfl, hx, E⟩ := envR_cons E
  obtain ⟨y, r2, rfl, hy, E⟩ := envR_cons E
  obtain rfl := envR_nil E
  obtain ⟨xs, ys, e1, e2, e3⟩ := hy
  cases e1
  have e2 : xs = [] := e2
  have e3 : ys = [] := e3
  subst e2; subst e3
  obtain ⟨w0, hw, ew, h2⟩ := hx
  cases ew
  have key : ∀ id o, hg.get id = some o → h.get id = some o := by
    intro id o ho
    obtain ⟨x, hx, rfl, hfl, rfl⟩ := hgl id o ho
    obtain ⟨xs, h1, h2⟩ := hG x hx
    have h3 := M.fz.2 _ _ h1
    have h4 : xs = x.l.map (encC x.t) := all2_enc hfl h2
    rw [← h4]; exact h3
  have fin : ∀ (h' : AH), VMem h X g H [some (.row e .str (sortT cf l))] h' → sortHook hg fc cf [x, .func (.func fc) [] []] h = some (.undef, h') →
      ∃ v h' g' H' S', acall P Γ D n f [x, .func (.func fc) [] []] h = some (v, h') ∧ g.le g' ∧ (∀ (k : Nat) (x : AV), k < (eSort f fc e cf).ps.os.length → H[k]? = some x → H'[k]? = some x) ∧ VMem h X g' H' S'.os h' ∧ EnvR g' H' S'.ts [v] ∧ IsAlt (eSort f fc e cf).rs (sortT cf l, ()) S' :=
    fun h' M' hc => ⟨.undef, h', g, H, (Sh.mk [.un] [.row e .str]).unp (sortT cf l, ()), by rw [acall_hook hf]; exact hc, FM.le.refl g, fun _ _ _ hk => hk, M', ⟨rfl, fun d s' z k1 k2 => by
      cases d with
      | zero => cases k1; cases k2; exact rfl
      | succ d => simp at k2⟩, fun K => rfl⟩
  have e0 : sortT cf [] = [] := rfl
  rcases M.so 0 _ x rfl hw with ⟨rfl, rfl⟩ | ⟨id, off, c, xs, rfl, q1, q2, q3, q4⟩
  · refine fin h (by rw [e0]; exact M) ?_
    unfold sortHook; rfl
  · have hsz : Ty.str.size = 1 := rfl
    rw [hsz, Nat.mul_one] at q2 q3
    have hlen : ((sortT cf l).map AV.str).length = l.length := by simp [sortT_len]
    by_cases hl0 : l = []
    · subst hl0
      refine fin h (by rw [e0]; exact M) ?_
      unfold sortHook
      simp only [hsz, List.length_nil]
      rw [if_pos ⟨rfl, rfl, key⟩]; exact if_pos trivial
    have hln : l.length ≠ 0 := fun h => hl0 (List.length_eq_zero_iff.1 h)
    refine fin (h.set id (.cells (splice c off ((sortT cf l).map .str)) true 0 (some (e, false)))) ?_ ?_
    · refine M.upd (k := 0) rfl hw rfl (by rw [AH.set_n]; exact Nat.le_refl _) (fun j q hne hq => by rw [AH.get_set_ne hne]; exact hq) (.inr ⟨id, off, _, (sortT cf l).map fun s => [AV.str s], by rw [sortT_len], AH.get_set_same q1, ?_, ?_, rep_strs _⟩)
      · rw [sortT_len, hsz, Nat.mul_one, splice_len (by omega)]; exact q2
      · rw [sortT_len, hsz, Nat.mul_one, flat_strs]
        have := splice_seg (c := c) (off := off) (xs := (sortT cf l).map AV.str) (by omega)
        rw [hlen] at this; exact this
    · unfold sortHook
      simp only [hsz]
      rw [if_pos ⟨rfl, rfl, key⟩, if_neg hln]
      simp only [q1, q3, strs_rep q4]
      rw [if_pos ⟨q2, Nat.zero_le _, hb.2, hb.1⟩]
end Go.Proofs.YtglcbikbmobdpaaDoorM
