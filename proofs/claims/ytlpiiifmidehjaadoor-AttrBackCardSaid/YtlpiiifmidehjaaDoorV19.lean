/- The chain of a seat's functions. -/
import Derived.Test.YtlpiiifmidehjaaDoorV18
set_option linter.unusedSimpArgs false
set_option linter.unusedVariables false
namespace Go.Proofs.YtlpiiifmidehjaaDoorM
open Go Go.RowKit

variable {P : Program}

theorem pureE_parts {e : VEnt} (h : pureE e = true) : e.ps.os = [] ∧ e.ps.ts.all SH.plainP = true ∧ ∃ s, e.rs = [⟨[s], []⟩] ∧ s.plainR = true := by
  unfold pureE at h
  simp only [Bool.and_eq_true, List.isEmpty_iff] at h
  obtain ⟨⟨h1, h2⟩, h4⟩ := h
  refine ⟨h1, h2, ?_⟩
  split at h4
  · rename_i r hr
    simp only [Bool.and_eq_true, List.isEmpty_iff] at h4
    obtain ⟨h3, h4⟩ := h4
    split at h4
    · rename_i s hs
      obtain ⟨ts, os⟩ := r
      simp only at h3 hs
      subst h3; subst hs
      exact ⟨s, hr, h4⟩
    · cases h4
  · cases h4

theorem VMem.none {h0 h : AH} {X : List Nat} {g : FM} {H : List AV} {os : List (Option SO)} (M : VMem h0 X g H os h) : VMem h0 X g [] [] h :=
  ⟨M.n, M.old, M.fz, rfl, fun k o x h1 => by simp at h1, fun k o x id h1 => by simp at h1, M.gx, fun k o x k' o' x' id h1 => by simp at h1⟩

/-! ### Functions that take nothing, look at package variables alone, and answer true -/
noncomputable def awakeHook (hg : AH) (args : List AV) (h : AH) : Option (AV × AH) := by
  classical exact if args = [] ∧ ∀ id o, hg.get id = some o → h.get id = some o then some (.bool true, h) else none
/-- Package variables alone. -/
def GHeap (hg : AH) : Prop := ∀ id o, hg.get id = some o → ∃ c, o = .gvar id c ∧ c.all freeAV = true
theorem Rel.subG {B : Nat} {φ : Nat → Loc} {h hg : AH} {w : World} (r : Rel B φ h w) (hG : GHeap hg) (hs : ∀ id o, hg.get id = some o → h.get id = some o) : Rel B φ hg w := by
  refine ⟨fun id o hh => ?_, fun id o hh ho => ?_, fun i j o p hi hj ho => ?_, r.bs⟩
  · obtain ⟨c, rfl, hc⟩ := hG id o hh
    obtain ⟨h0, C, e, lo, hi, h1, h2, h3⟩ := r.obj id _ (hs id _ hh)
    exact ⟨h0, C, e, lo, hi, h1, h2, fun i x hx => let ⟨v, k1, k2⟩ := h3 i x hx; ⟨v, k1, k2.free (free_ids (List.all_eq_true.1 hc x (List.mem_of_getElem? hx)))⟩⟩
  · obtain ⟨c, rfl, hc⟩ := hG id o hh
    cases ho
  · obtain ⟨c, rfl, hc⟩ := hG i o hi
    cases ho
theorem HookOK.awake {B : Nat} {Γ : Hooks} {D : Drawn} (hΓ : HooksOK P B Γ) (hD : ∀ callF, CallOK P B callF → DrawnOK P B (D callF)) (hN : P.funcs.all (fun fn => !(fn.name == "runtime.NumGoroutine")) = true) (f : FuncId) {hg : AH} (hG : GHeap hg)
    {n : Nat} (hrun : (acall P Γ D n f [] hg).map (·.1) = some (.bool true)) : HookOK P B f (awakeHook hg) := by
  intro args h v h' hr φ w args' r ha
  unfold awakeHook at hr
  split at hr
  rotate_left
  · cases hr
  rename_i hc
  obtain ⟨rfl, hs⟩ := hc
  cases hr
  obtain ⟨⟨v1, h1⟩, e1, e2⟩ := map_some hrun
  cases e2
  refine (call_sound hΓ hD hN n f [] hg _ h1 e1 φ w args' (r.subG hG hs) ⟨ha.1, fun i x u hx hu => (by simp at hx)⟩).mono fun v' w' hres => ?_
  obtain ⟨φ', hvr, r', s'⟩ := hres
  have keep : ∀ k, k < w.heap.size → w'.heap[k]? = w.heap[k]? := fun k hk => s'.frame k hk fun id o hg1 ho => by
    obtain ⟨c, rfl, _⟩ := hG id o hg1
    cases ho
  refine ⟨φ, hvr.free (free_ids rfl), ⟨fun id o hg1 => ?_, r.base, r.sep, Nat.le_trans r.bs s'.size⟩, ⟨s'.os, s'.tape, s'.output, s'.size, Nat.le_refl _, fun _ hk => hk, fun _ _ => rfl, fun k hk _ => keep k hk, fun id o hg ho => .inr ⟨id, o, hg, ho, rfl⟩⟩⟩
  cases hl : o.live with
  | false => cases o <;> first | trivial | cases hl
  | true => rw [keep _ (r.lt hg1 hl)]; exact r.obj id o hg1

structure Aw where
  fs : List FuncId
  hk : FuncId → List AV → AH → Option (AV × AH)
/-- No hooks beside the plain ones. -/
def noW : Aw := ⟨[], fun _ _ _ => none⟩
noncomputable def hooksW (W : Aw) (K : PureK) : Hooks := fun f => if W.fs.contains f then some (W.hk f) else hooksOf K f
def WOK (P : Program) (B : Nat) (W : Aw) : Prop := ∀ f ∈ W.fs, HookOK P B f (W.hk f)
theorem WOK.no {P : Program} {B : Nat} : WOK P B noW := fun f hf => by cases hf
theorem hooksW_ok {B : Nat} {W : Aw} {K : PureK} (hW : WOK P B W) (hK : KOK P B K) : HooksOK P B (hooksW W K) := by
  intro f g hg
  unfold hooksW at hg
  split at hg
  · rename_i hc
    cases hg
    have := hW f (by simpa using hc)
    intro f' args h v h' hr φ w args' r ha
    simp only at hr
    split at hr
    · rename_i e; subst e; exact this args h v h' hr φ w args' r ha
    · cases hr
  · exact hK.hooks f g hg

theorem hook_sound {gl : List GVar} {Γ : Hooks} {D : Drawn} {e : VEnt} (hp : pureE e = true) (hK : Γ e.f = some (fun args h => (kOf e args).map fun v => (v, h))) (n : Nat) : SoundE gl (acall P Γ D n) e := by
  intro X g H args h p q hG hq M E
  obtain ⟨h1, h2, s, h4, h5⟩ := pureE_parts hp
  obtain ⟨f, ⟨pts, pos⟩, rs, F⟩ := e
  simp only at h1 h2 h4
  subst h1; subst h4
  have hpk : (Sh.mk pts []).pack ⟨args.map svOf, []⟩ = some p := by
    unfold Sh.pack
    have := pack_args (r := otysOf [] .nil) (p := p) h2 E
    exact this
  obtain ⟨x, hx, hr, _⟩ := enc_plainR (g := g) (H := []) (s := s) (r := tysOf [] (otysOf [] .nil)) (q := q) h5
  have hk : kOf ⟨f, ⟨pts, []⟩, [⟨[s], []⟩], F⟩ args = some x := by
    unfold kOf
    simp only at hq ⊢
    rw [hpk, Option.bind_some, hq, Option.bind_some]
    show (match (s.unp q).1.enc with | [x] => some x | _ => none) = some x
    rw [hx]
  refine ⟨x, h, g, [], (Sh.mk [s] []).unp q, ?_, FM.le.refl g, fun k y hk' => by simp at hk', M.none, ⟨rfl, fun d s' y k1 k2 => ?_⟩, fun K => rfl⟩
  · rw [acall_hook (g := fun args h => (kOf ⟨f, ⟨pts, []⟩, [⟨[s], []⟩], F⟩ args).map fun v => (v, h)) hK]
    rw [hk]; rfl
  · cases d with
    | zero =>
      have e1 : (s.unp q).1 = s' := by
        have : ((Sh.mk [s] []).unp q).ts[0]? = some s' := k1
        simpa [Sh.unp, unpL] using this
      simp at k2
      subst k2; subst e1
      exact hr
    | succ d => simp at k2

theorem free_of2 {x : AV} (h : free2 x = true) : freeAV x = true := by
  unfold freeAV
  split
  · cases h
  · exact h

theorem args_free {g : FM} {H : List AV} : ∀ {l : List SH} {r : Ty} {p : (tysOf l r).D} {args : List AV}, l.all SH.plainP = true → EnvR g H (unpL l p).1 args → args.all freeAV = true
  | [], r, p, args, _, E => by
    obtain rfl := List.eq_nil_of_length_eq_zero (show args.length = 0 from E.len)
    rfl
  | s :: l, r, p, args, hp, E => by
    simp only [List.all_cons, Bool.and_eq_true] at hp
    cases s <;> first | (cases hp.1; done) | skip
    rename_i t
    have e : unpL (.pv t :: l) p = (.pv t p.1 :: (unpL l p.2).1, (unpL l p.2).2) := rfl
    rw [e] at E
    cases args with
    | nil => have := E.len; simp at this
    | cons x args =>
      obtain ⟨y, e', hv⟩ := E.get 0 _ x rfl rfl
      cases e'
      have E' : EnvR g H (unpL l p.2).1 args := ⟨by have := E.len; simpa using this, fun d s' x' h1 h2 => E.get (d + 1) s' x' (by simpa using h1) (by simpa using h2)⟩
      rw [List.all_cons, args_free hp.2 E', free_of2 (free_rep hp.1 hv)]
      rfl

def g0 : FM := ⟨fun _ => none, fun _ => none, fun _ => False⟩
theorem VMem.empty (h : AH) : VMem h [] g0 [] [] h :=
  ⟨Nat.le_refl _, fun _ _ _ hk => hk, ⟨fun _ _ hc => (by cases hc), fun _ _ hc => (by cases hc)⟩, rfl, fun k o x h1 => by simp at h1, fun k o x id h1 => by simp at h1, fun _ _ hc => (by cases hc), fun k o x k' o' x' id h1 => by simp at h1⟩

theorem hook_ok {B : Nat} {W : Aw} {K : PureK} {e : VEnt} {n : Nat} (hp : pureE e = true) (hW : WOK P B W) (hK : KOK P B K) (hm : P.follows .mixedOrders = true) (hN : P.funcs.all (fun fn => !(fn.name == "runtime.NumGoroutine")) = true)
    (hS : SoundE [] (acall P (hooksW W K) (drawnOf P (tabOf K)) n) e) : HookOK P B e.f (fun args h => (kOf e args).map fun v => (v, h)) := by
  refine HookOK.apart (Γ := hooksW W K) (D := drawnOf P (tabOf K)) (hooksW_ok hW hK) (drawnOf_ok hm hK.tab) hN e.f (kOf e) fun args v hv => ?_
  obtain ⟨h1, h2, s, h4, h5⟩ := pureE_parts hp
  unfold kOf at hv
  obtain ⟨p, hpk, hv⟩ := Option.bind_eq_some_iff.1 hv
  obtain ⟨q, hq, hv⟩ := Option.bind_eq_some_iff.1 hv
  have E0 : EnvR g0 [] (VS.mk (args.map svOf) []).ts args := ⟨by simp, fun d s x k1 k2 => by
    have k1' : (args.map svOf)[d]? = some s := k1
    rw [List.getElem?_map, k2] at k1'
    cases k1'
    exact svOf_ok x⟩
  obtain ⟨M1, E1⟩ := Sh.pack_ok (S := ⟨args.map svOf, []⟩) hpk (VMem.empty ⟨0, []⟩) E0
  obtain ⟨v', h', g', H', S', r1, r2, r3, r4, r5, r6⟩ := hS [] g0 [] args ⟨0, []⟩ p q (fun x hx => by cases hx) hq M1 E1
  obtain ⟨f, ⟨pts, pos⟩, rs, F⟩ := e
  simp only at h1 h2 h4
  subst h1; subst h4
  have hS' : (Sh.mk [s] []).unp q = S' := by
    have := r6 (fun S => some S)
    exact Option.some.inj this
  subst hS'
  have hv : outAV ((Sh.mk [s] []).unp q) = some v := hv
  have hr : SVR g' H' (s.unp q).1 v' := r5.get 0 _ v' (by simp [Sh.unp, unpL]) rfl
  have he := plainR_enc h5 hr
  have hv' : v' = v := by
    unfold outAV at hv
    have e1 : ((Sh.mk [s] []).unp q).ts = [(s.unp q).1] := rfl
    simp only [e1, he, Option.some.injEq] at hv
    exact hv
  subst hv'
  obtain ⟨x, hx, _, hfx⟩ := enc_plainR (g := g') (H := H') (s := s) (r := tysOf [] (otysOf [] .nil)) (q := q) h5
  rw [he] at hx
  cases hx
  exact ⟨hfx, args_free h2 E1, _, _, r1⟩

/-! ### The chain -/
def SE (P : Program) (gl : List GVar) (W : Aw) (K : PureK) (d : Nat) (e : VEnt) : Prop := ∀ m, NF + d ≤ m → SoundE gl (acall P (hooksW W K) (drawnOf P (tabOf K)) m) e
theorem SE.mono {gl : List GVar} {W : Aw} {K : PureK} {d d' : Nat} {e : VEnt} (h : SE P gl W K d e) (hd : d ≤ d') : SE P gl W K d' e := fun m hm => h m (by omega)
theorem SE.gl {gl : List GVar} {W : Aw} {K : PureK} {d : Nat} {e : VEnt} (h : SE P [] W K d e) : SE P gl W K d e := fun m hm X g H args h' p q hG => h m hm X g H args h' p q (fun x hx => by cases hx)
def ExtK (K K' : PureK) : Prop := ∀ f k, K f = some k → K' f = some k
theorem SE.all {gl : List GVar} {W : Aw} {K : PureK} : ∀ {es : List VEnt}, (∀ e ∈ es, ∃ d, SE P gl W K d e) → ∃ d, ∀ e ∈ es, SE P gl W K d e
  | [], _ => ⟨0, fun e he => by cases he⟩
  | e :: es, h => by
    obtain ⟨d1, h1⟩ := h e (List.mem_cons_self ..)
    obtain ⟨d2, h2⟩ := SE.all fun e' he' => h e' (List.mem_cons_of_mem _ he')
    refine ⟨max d1 d2, fun e' he' => ?_⟩
    rcases List.mem_cons.1 he' with rfl | he'
    · exact h1.mono (Nat.le_max_left ..)
    · exact (h2 e' he').mono (Nat.le_max_right ..)

theorem tab_same {W : Aw} {K : PureK} {D : Drawn} {n : Nat} (hW : ∀ f ∈ W.fs, K f = none) : withTab (tabOf K) (acall P (hooksW W K) D n) = acall P (hooksW W K) D n := by
  funext f args h
  unfold withTab tabOf
  cases hk : K f with
  | none => rfl
  | some k =>
    simp only [Option.map_some]
    rw [acall_hook (g := fun args h => (k args).map fun v => (v, h)) (by unfold hooksW; rw [if_neg (fun hc => by have := hW f (by simpa using hc); rw [hk] at this; cases this)]; unfold hooksOf; rw [hk]; rfl)]
    rfl

/-- One more function, run by the value machine. -/
theorem SE.run {gl : List GVar} {W : Aw} {K : PureK} {es : List VEnt} {pu : List FuncId} {f : FuncId} {fn : Func} {A : Ann} {ps : Sh} {rs : List Sh} {F : ps.D → Option (AltD rs)} {d : Nat} (hes : ∀ e ∈ es, SE P gl W K d e) (hpu : ∀ g ∈ pu, (K g).isSome = true) (hW : ∀ f ∈ W.fs, K f = none) (hf : K f = none) (hfW : W.fs.contains f = false)
    (hfn : P.funcs[f]? = some fn) (hps : ps.ts.length ≤ fn.ntmps) (hF : vfn ⟨P, gl, es, pu⟩ fn A ps rs = F) : SE P gl W K (d + 1) ⟨f, ps, rs, F⟩ := by
  intro m hm
  obtain ⟨m, rfl⟩ : ∃ k, m = k + 1 := ⟨m - 1, by omega⟩
  rw [← hF]
  refine vfn_ok (cx := ⟨P, gl, es, pu⟩) (by unfold hooksW; rw [if_neg (by rw [hfW]; exact Bool.false_ne_true)]; exact hooksOf_none hf) hfn (by omega) ⟨fun e he => hes e he m (by omega), fun ops env h hd => ?_⟩ hps
  refine ⟨withTab (tabOf K) (acall P (hooksW W K) (drawnOf P (tabOf K)) m), fun e he => by rw [tab_same hW]; exact hes e he m (by omega), ?_⟩
  have hsub : Ksub (Kof pu) K := fun g hg => by
    refine hpu g ?_
    clear hpu hF hes hd
    induction pu with
    | nil => cases hg
    | cons x l ih =>
      simp only [Kof] at hg
      split at hg
      · rename_i e; rw [e]; exact List.mem_cons_self ..
      · exact List.mem_cons_of_mem _ (ih hg)
  unfold drawnOf
  rw [if_pos (dOK_sub hsub hd)]

structure Ch (P : Program) (gl : List GVar) (W : Aw) (K : PureK) (N : List FuncId) (es0 es : List VEnt) : Prop where
  ok : ∀ B, KOK P B K
  e0 : ∀ K', ExtK K K' → (∀ f ∈ N, K' f = none) → ∀ e ∈ es0, ∃ d, SE P [] W K' d e
  e1 : ∀ K', ExtK K K' → (∀ f ∈ N, K' f = none) → ∀ e ∈ es, ∃ d, SE P gl W K' d e
  no : ∀ f ∈ N, K f = none
  wn : ∀ f ∈ W.fs, f ∈ N
  wok : ∀ B, WOK P B W

theorem Ch.nil {gl : List GVar} : Ch P gl noW (fun _ => none) [] [] [] := ⟨fun B => KOK.none, fun _ _ _ e he => (by cases he), fun _ _ _ e he => (by cases he), fun f hf => (by cases hf), fun f hf => (by cases hf), fun B f hf => (by cases hf)⟩
theorem all2_enc {g : FM} {t : Ty} (hf : t.flat = true) : ∀ {xs : List (List AV)} {l : List t.D}, All2 (RepC g t) xs l → xs = l.map (encC t)
  | [], [], _ => rfl
  | x :: xs, v :: l, h => by
    have h1 := h.1
    have h2 := all2_enc hf h.2
    rw [List.map_cons, ← h2, ← rep_enc hf h1]
  | [], _ :: _, h => by first | cases h | exact h.elim
  | _ :: _, [], h => by first | cases h | exact h.elim
/-- The entry of a function that is awake. -/
def awE (f : FuncId) : VEnt := ⟨f, ⟨[], []⟩, [⟨[.pv .bool], []⟩], fun _ => some (true, ())⟩
theorem aw_sound {gl : List GVar} {hg : AH} (hgl : ∀ id o, hg.get id = some o → ∃ x ∈ gl, x.g = id ∧ x.t.flat = true ∧ o = .gvar id (x.l.map (encC x.t)).flatten) {Γ : Hooks} {D : Drawn} {f : FuncId} (hf : Γ f = some (awakeHook hg)) (n : Nat) : SoundE gl (acall P Γ D n) (awE f) := by
  intro X g H args h p q hG hq M E
  have hq : some (true, ()) = some q := hq
  cases hq
  have ha : args = [] := List.eq_nil_of_length_eq_zero E.len
  subst ha
  refine ⟨.bool true, h, g, [], (Sh.mk [.pv .bool] []).unp (true, ()), ?_, FM.le.refl g, fun k y hk' => by simp [awE] at hk', M.none, ⟨rfl, fun d s' y k1 k2 => ?_⟩, fun K => rfl⟩
  · show acall P Γ D n f [] h = _
    rw [acall_hook hf]
    have key : ∀ id o, hg.get id = some o → h.get id = some o := by
      intro id o ho
      obtain ⟨x, hx, rfl, hfl, rfl⟩ := hgl id o ho
      obtain ⟨xs, h1, h2⟩ := hG x hx
      have h3 := M.fz.2 _ _ h1
      have h4 : xs = x.l.map (encC x.t) := all2_enc hfl h2
      rw [← h4]; exact h3
    unfold awakeHook
    exact if_pos ⟨rfl, key⟩
  · cases d with
    | zero =>
      have e1 : (SV.pv .bool true) = s' := by
        have : ((Sh.mk [.pv .bool] []).unp (true, ())).ts[0]? = some s' := k1
        exact Option.some.inj this
      simp at k2
      subst k2; subst e1
      exact ⟨_, rfl, rfl⟩
    | succ d => simp at k2
/-- The chain's begin: functions that are known by hooks of their own. -/
theorem Ch.start {gl : List GVar} {W : Aw} (hW : ∀ B, WOK P B W) : Ch P gl W (fun _ => none) W.fs [] [] :=
  ⟨fun B => KOK.none, fun _ _ _ e he => (by cases he), fun _ _ _ e he => (by cases he), fun f hf => rfl, fun f hf => hf, hW⟩
theorem Ch.addW {gl : List GVar} {W : Aw} {K : PureK} {N : List FuncId} {es0 es : List VEnt} (C : Ch P gl W K N es0 es) {e : VEnt} (hf : W.fs.contains e.f = true) (hs : ∀ (Γ : Hooks) (D : Drawn) (n : Nat), Γ e.f = some (W.hk e.f) → SoundE [] (acall P Γ D n) e) :
    Ch P gl W K N (e :: es0) (e :: es) := by
  have key : ∀ (K' : PureK), SE P [] W K' 0 e := fun K' m _ => hs _ _ m (by unfold hooksW; rw [if_pos hf])
  refine ⟨C.ok, fun K' he hn e' hm => ?_, fun K' he hn e' hm => ?_, C.no, C.wn, C.wok⟩
  · rcases List.mem_cons.1 hm with rfl | hm
    · exact ⟨0, key K'⟩
    · exact C.e0 K' he hn e' hm
  · rcases List.mem_cons.1 hm with rfl | hm
    · exact ⟨0, (key K').gl⟩
    · exact C.e1 K' he hn e' hm

section
variable {gl : List GVar} {W : Aw} {K : PureK} {N : List FuncId} {es0 es : List VEnt} {pu : List FuncId} {f : FuncId} {fn : Func} {A : Ann} {ps : Sh} {rs : List Sh} {F : ps.D → Option (AltD rs)}
theorem pu_ext {K' : PureK} (he : ExtK K K') (hpu : pu.all (fun g => (K g).isSome) = true) : ∀ g ∈ pu, (K' g).isSome = true := fun g hg => by
  have := List.all_eq_true.1 hpu g hg
  obtain ⟨k, hk⟩ := Option.isSome_iff_exists.1 this
  rw [he g k hk]; rfl

/-- A function that reads told variables, or memory. -/
theorem Ch.addG (C : Ch P gl W K N es0 es) (hpu : pu.all (fun g => (K g).isSome) = true) (hf : K f = none) (hfW : W.fs.contains f = false) (hfn : P.funcs[f]? = some fn) (hps : ps.ts.length ≤ fn.ntmps) (hF : vfn ⟨P, gl, es, pu⟩ fn A ps rs = F) :
    Ch P gl W K (f :: N) es0 (⟨f, ps, rs, F⟩ :: es) := by
  refine ⟨C.ok, fun K' he hn => C.e0 K' he fun g hg => hn g (List.mem_cons_of_mem _ hg), fun K' he hn e hm => ?_, fun g hg => ?_, fun g hg => List.mem_cons_of_mem _ (C.wn g hg), C.wok⟩
  · have h1 := C.e1 K' he fun g hg => hn g (List.mem_cons_of_mem _ hg)
    rcases List.mem_cons.1 hm with rfl | hm
    · obtain ⟨d, hd⟩ := SE.all h1
      exact ⟨d + 1, SE.run hd (pu_ext he hpu) (fun g hg => hn g (List.mem_cons_of_mem _ (C.wn g hg))) (hn f (List.mem_cons_self ..)) hfW hfn hps hF⟩
    · exact h1 e hm
  · rcases List.mem_cons.1 hg with rfl | hg
    · exact hf
    · exact C.no g hg
/-- One that reads no told variable. -/
theorem Ch.add0 (C : Ch P gl W K N es0 es) (hpu : pu.all (fun g => (K g).isSome) = true) (hf : K f = none) (hfW : W.fs.contains f = false) (hfn : P.funcs[f]? = some fn) (hps : ps.ts.length ≤ fn.ntmps) (hF : vfn ⟨P, [], es0, pu⟩ fn A ps rs = F) :
    Ch P gl W K (f :: N) (⟨f, ps, rs, F⟩ :: es0) (⟨f, ps, rs, F⟩ :: es) := by
  have key : ∀ K', ExtK K K' → (∀ g ∈ f :: N, K' g = none) → ∃ d, SE P [] W K' d ⟨f, ps, rs, F⟩ := fun K' he hn => by
    obtain ⟨d, hd⟩ := SE.all (C.e0 K' he fun g hg => hn g (List.mem_cons_of_mem _ hg))
    exact ⟨d + 1, SE.run hd (pu_ext he hpu) (fun g hg => hn g (List.mem_cons_of_mem _ (C.wn g hg))) (hn f (List.mem_cons_self ..)) hfW hfn hps hF⟩
  refine ⟨C.ok, fun K' he hn e hm => ?_, fun K' he hn e hm => ?_, fun g hg => ?_, fun g hg => List.mem_cons_of_mem _ (C.wn g hg), C.wok⟩
  · rcases List.mem_cons.1 hm with rfl | hm
    · exact key K' he hn
    · exact C.e0 K' he (fun g hg => hn g (List.mem_cons_of_mem _ hg)) e hm
  · rcases List.mem_cons.1 hm with rfl | hm
    · obtain ⟨d, hd⟩ := key K' he hn; exact ⟨d, hd.gl⟩
    · exact C.e1 K' he (fun g hg => hn g (List.mem_cons_of_mem _ hg)) e hm
  · rcases List.mem_cons.1 hg with rfl | hg
    · exact hf
    · exact C.no g hg

theorem ext_add {k : List AV → Option AV} {K' : PureK} (hf : K f = none) (h : ExtK (addK K f k) K') : ExtK K K' ∧ K' f = some k := by
  refine ⟨fun g k' hg => h g k' ?_, h f k (by simp [addK])⟩
  unfold addK
  rw [if_neg (fun e => by subst e; rw [hf] at hg; cases hg)]
  exact hg

/-- One that is known by its hook. -/
theorem Ch.hook (C : Ch P gl W K N es0 es) {e : VEnt} (hf : K e.f = none) (hN : N.contains e.f = false) (hp : pureE e = true) (hh : ∀ B, HookOK P B e.f (fun args h => (kOf e args).map fun v => (v, h))) :
    Ch P gl W (addK K e.f (kOf e)) N (e :: es0) (e :: es) := by
  refine ⟨fun B => (C.ok B).add (hh B), fun K' he hn e' hm => ?_, fun K' he hn e' hm => ?_, fun g hg => ?_, C.wn, C.wok⟩
  · obtain ⟨h1, h2⟩ := ext_add hf he
    rcases List.mem_cons.1 hm with rfl | hm
    · exact ⟨0, fun m _ => hook_sound hp (by unfold hooksW; rw [if_neg (fun hc => by have := hn e'.f (C.wn _ (by simpa using hc)); rw [h2] at this; cases this)]; unfold hooksOf; rw [h2]; rfl) m⟩
    · exact C.e0 K' h1 hn e' hm
  · obtain ⟨h1, h2⟩ := ext_add hf he
    rcases List.mem_cons.1 hm with rfl | hm
    · exact ⟨0, fun m _ => hook_sound hp (by unfold hooksW; rw [if_neg (fun hc => by have := hn e'.f (C.wn _ (by simpa using hc)); rw [h2] at this; cases this)]; unfold hooksOf; rw [h2]; rfl) m⟩
    · exact C.e1 K' h1 hn e' hm
  · unfold addK
    split
    · rename_i e2
      subst e2
      rw [List.contains_eq_mem, decide_eq_false_iff_not] at hN
      exact absurd hg hN
    · exact C.no g hg
/-- One that looks at no memory: its hook is made. -/
theorem Ch.pure (hm : P.follows .mixedOrders = true) (hNg : P.funcs.all (fun fn => !(fn.name == "runtime.NumGoroutine")) = true) (C : Ch P gl W K N es0 es) (hpu : pu.all (fun g => (K g).isSome) = true) (hf : K f = none) (hN : N.contains f = false) (hfn : P.funcs[f]? = some fn) (hps : ps.ts.length ≤ fn.ntmps)
    (hp : pureE ⟨f, ps, rs, F⟩ = true) (hF : vfn ⟨P, [], es0, pu⟩ fn A ps rs = F) : Ch P gl W (addK K f (kOf ⟨f, ps, rs, F⟩)) N (⟨f, ps, rs, F⟩ :: es0) (⟨f, ps, rs, F⟩ :: es) := by
  refine C.hook (e := ⟨f, ps, rs, F⟩) hf hN hp fun B => ?_
  obtain ⟨d, hd⟩ := SE.all (C.e0 K (fun g k hg => hg) C.no)
  exact hook_ok hp (C.wok B) (C.ok B) hm hNg (SE.run hd (pu_ext (fun g k hg => hg) hpu) (fun g hg => C.no g (C.wn g hg)) hf (by
    cases hc : W.fs.contains f with
    | false => rfl
    | true =>
      have := C.wn f (by simpa using hc)
      rw [List.contains_eq_mem, decide_eq_false_iff_not] at hN
      exact absurd this hN) hfn hps hF (NF + (d + 1)) (Nat.le_refl _))
end
end Go.Proofs.YtlpiiifmidehjaaDoorM
