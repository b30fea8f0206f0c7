/- Hooks: a function that has been gone through stands for its calls. What a call leaves behind may be forgotten. -/
import Derived.Test.YtobhmahlenjheaaM13
set_option linter.unusedSimpArgs false
set_option linter.unusedVariables false
namespace Go.Proofs.YtobhmahlenjheaaM
open Go Go.RowKit

variable {P : Program} {B : Nat} {φ : Nat → Loc} {h : AH} {w : World}

/-- All blocks that a value names meet p. -/
inductive Ids (p : Nat → Prop) : AV → Prop
  | int (k : IntKind) (m : Int) : Ids p (.int k m)
  | bool (b : Bool) : Ids p (.bool b)
  | str (l : List UInt8) : Ids p (.str l)
  | val (v : Value) : Ids p (.val v)
  | ptr (id off : Nat) (h : p id) : Ids p (.ptr id off)
  | sl (id off len esz : Nat) (h : p id) : Ids p (.sl id off len esz)
  | map (id : Nat) (h : p id) : Ids p (.map id)
  | iface (t : TypeId) (x : AV) (h : Ids p x) : Ids p (.iface t x)
  | agg (xs : List AV) (h : ∀ (i : Nat) (x : AV), xs[i]? = some x → Ids p x) : Ids p (.agg xs)
  | tup (xs : List AV) (h : ∀ (i : Nat) (x : AV), xs[i]? = some x → Ids p x) : Ids p (.tup xs)
  | func (fn : Fn) (xs ys : List AV) (h : ∀ (i : Nat) (x : AV), xs[i]? = some x → Ids p x) (h' : ∀ (i : Nat) (x : AV), ys[i]? = some x → Ids p x) : Ids p (.func fn xs ys)
  | any : Ids p .any

theorem part_there {xs : List AV} {vs : Array Value} (hl : xs.length = vs.size) {i : Nat} {x : AV} (hx : xs[i]? = some x) : ∃ v, vs[i]? = some v := by
  have hi : i < vs.size := by
    rcases Nat.lt_or_ge i xs.length with h' | h'
    · omega
    · rw [List.getElem?_eq_none h'] at hx; cases hx
  exact ⟨_, Array.getElem?_eq_getElem hi⟩

theorem Ids.of_VR {N : Nat → Prop} {x : AV} {v : Value} (h : VR N φ x v) : Ids N x := by
  induction h with
  | int k m => exact .int k m
  | bool b => exact .bool b
  | str l => exact .str l
  | val v => exact .val v
  | ptr id off h => exact .ptr id off h
  | sl id off len esz a cap h hl ha => exact .sl id off len esz h
  | map id h => exact .map id h
  | iface t x v _ ih => exact .iface t x ih
  | agg xs vs hl _ ih => exact .agg xs fun i x hx => (part_there hl hx).elim fun v hv => ih i x v hx hv
  | tup xs vs hl _ ih => exact .tup xs fun i x hx => (part_there hl hx).elim fun v hv => ih i x v hx hv
  | func fn xs ys us vs hl hl' _ _ ih ih' => exact .func fn xs ys (fun i x hx => (part_there hl hx).elim fun v hv => ih i x v hx hv) fun i x hx => (part_there hl' hx).elim fun v hv => ih' i x v hx hv
  | any v => exact .any

/-- A value's partner goes by the blocks that it names alone. -/
theorem VR.shift {N N' p : Nat → Prop} {φ φ' : Nat → Loc} (hN : ∀ id, p id → N' id) (he : ∀ id, p id → φ' id = φ id) {x : AV} {v : Value} (h : VR N φ x v) (hi : Ids p x) : VR N' φ' x v := by
  induction h with
  | int k m => exact .int k m
  | bool b => exact .bool b
  | str l => exact .str l
  | val v => exact .val v
  | ptr id off h => cases hi with | ptr _ _ hp => rw [← he id hp]; exact .ptr id off (hN id hp)
  | sl id off len esz a cap h hl ha => cases hi with | sl _ _ _ _ hp => exact .sl id off len esz a cap (hN id hp) hl (by rw [he id hp]; exact ha)
  | map id h => cases hi with | map _ hp => rw [← he id hp]; exact .map id (hN id hp)
  | iface t x v _ ih => cases hi with | iface _ _ hp => exact .iface t x v (ih hp)
  | agg xs vs hl _ ih => cases hi with | agg _ hp => exact .agg xs vs hl fun i x v hx hv => ih i x v hx hv (hp i x hx)
  | tup xs vs hl _ ih => cases hi with | tup _ hp => exact .tup xs vs hl fun i x v hx hv => ih i x v hx hv (hp i x hx)
  | func fn xs ys us vs hl hl' _ _ ih ih' => cases hi with | func _ _ _ hp hp' => exact .func fn xs ys us vs hl hl' (fun i x v hx hv => ih i x v hx hv (hp i x hx)) (fun i x v hx hv => ih' i x v hx hv (hp' i x hx))
  | any v => exact .any v

def NoId : Nat → Prop := fun _ => False
theorem NoId.ids {x : AV} {p : Nat → Prop} (h : Ids NoId x) : Ids p x := by
  induction h with
  | int k m => exact .int k m
  | bool b => exact .bool b
  | str l => exact .str l
  | val v => exact .val v
  | ptr id off h => exact h.elim
  | sl id off len esz h => exact h.elim
  | map id h => exact h.elim
  | iface t x _ ih => exact .iface t x ih
  | agg xs _ ih => exact .agg xs ih
  | tup xs _ ih => exact .tup xs ih
  | func fn xs ys _ _ ih ih' => exact .func fn xs ys ih ih'
  | any => exact .any
theorem VR.free {N N' : Nat → Prop} {φ φ' : Nat → Loc} {x : AV} {v : Value} (h : VR N φ x v) (hi : Ids NoId x) : VR N' φ' x v := h.shift (fun _ hf => hf.elim) (fun _ hf => hf.elim) hi

/-- Is a value free of blocks? -/
def free1 : AV → Bool
  | .int _ _ | .bool _ | .str _ | .val _ | .any => true
  | .func _ [] [] => true
  | _ => false
def free2 : AV → Bool
  | .agg xs => xs.all free1
  | .iface _ x => free1 x
  | x => free1 x
def freeAV : AV → Bool
  | .tup xs => xs.all free2
  | x => free2 x

theorem free1_ids {x : AV} (h : free1 x = true) : Ids NoId x := by
  unfold free1 at h
  split at h <;> first | exact .int _ _ | exact .bool _ | exact .str _ | exact .val _ | exact .any | exact .func _ _ _ (fun i x hx => by simp at hx) (fun i x hx => by simp at hx) | cases h
theorem list_ids {p : Nat → Prop} {xs : List AV} (h : ∀ x ∈ xs, Ids p x) : ∀ (i : Nat) (x : AV), xs[i]? = some x → Ids p x := fun i x hx => h x (List.mem_of_getElem? hx)
theorem free2_ids {x : AV} (h : free2 x = true) : Ids NoId x := by
  unfold free2 at h
  split at h
  · exact .agg _ (list_ids fun x hx => free1_ids (List.all_eq_true.1 h x hx))
  · exact .iface _ _ (free1_ids h)
  · exact free1_ids h
theorem free_ids {x : AV} (h : freeAV x = true) : Ids NoId x := by
  unfold freeAV at h
  split at h
  · exact .tup _ (list_ids fun x hx => free2_ids (List.all_eq_true.1 h x hx))
  · exact free2_ids h

/-- A part of a heap: what it shows is shown by the whole one. -/
def SubH (s h : AH) : Prop := ∀ id o, s.get id = some o → h.get id = some o

theorem Rel.sub {s : AH} (r : Rel B φ h w) (hs : SubH s h) (hi : ∀ id o, s.get id = some o → ∀ (p : Nat → Prop), ObjR h.ok φ (φ id) o w.heap[(φ id).b]? → ObjR s.ok φ (φ id) o w.heap[(φ id).b]?) : Rel B φ s w :=
  ⟨fun id o hg => hi id o hg (fun _ => True) (r.obj id o (hs id o hg)), fun id o hg ho => r.base id o (hs id o hg) ho, fun i j o p hg hj ho hp he => r.sep i j o p (hs i o hg) (hs j p hj) ho hp he, r.bs⟩

theorem Rel.empty (hb : B ≤ w.heap.size) (φ : Nat → Loc) (n : Nat) : Rel B φ ⟨n, []⟩ w := by
  have : ∀ id o, (⟨n, []⟩ : AH).get id = some o → False := fun id o hg => by
    unfold AH.get at hg
    split at hg
    · simp at hg
    · cases hg
  exact ⟨fun id o hg => (this id o hg).elim, fun id o hg => (this id o hg).elim, fun i j o p hg => (this i o hg).elim, hb⟩

/-- A call that sees no block of ours, and answers none, leaves what we know as it was. -/
theorem Res.aside {n : Nat} {v : AV} {h'' : AH} {v' : Value} {w' : World} (r : Rel B φ h w) (hr : Res B φ ⟨n, []⟩ w v h'' v' w') (hv : Ids NoId v) : Res B φ h w v h v' w' := by
  obtain ⟨φ', hvr, r', s'⟩ := hr
  have none : ∀ id o, (⟨n, []⟩ : AH).get id = some o → False := fun id o hg => by
    unfold AH.get at hg
    split at hg
    · simp at hg
    · cases hg
  have keep : ∀ k, k < w.heap.size → w'.heap[k]? = w.heap[k]? := fun k hk => s'.frame k hk fun id o hg => (none id o hg).elim
  refine ⟨φ, hvr.free hv, ⟨fun id o hg => ?_, r.base, r.sep, Nat.le_trans r.bs s'.size⟩, ⟨s'.os, s'.tape, s'.output, s'.size, Nat.le_refl _, fun _ hk => hk, fun _ _ => rfl, fun k hk _ => keep k hk, fun id o hg ho => .inr ⟨id, o, hg, ho, rfl⟩⟩⟩
  cases hl : o.live with
  | false => cases o <;> first | trivial | cases hl
  | true => rw [keep _ (r.lt hg hl)]; exact r.obj id o hg

/-! ### Hooks -/
theorem InvR.mono {K K' : Value → World → Prop} {r : Result Next} (h : InvR P K r) (hk : ∀ v w, K v w → K' v w) : InvR P K' r := by
  unfold InvR at *
  split
  · simp only at h; exact hk _ _ h
  · simp only at h
    refine Calls.mono h ?_
    rintro e w' ⟨v, rfl, hv⟩
    exact ⟨v, rfl, hk _ _ hv⟩
  · rename_i h1 h2
    split at h
    · exact absurd rfl (h1 _ _)
    · exact absurd rfl (h2 _ _ _)
    · exact h

/-- One more hook. -/
def Hooks.add (Γ : Hooks) (f : FuncId) (g : List AV → AH → Option (AV × AH)) : Hooks := fun k => if k = f then some g else Γ k

def HookOK (P : Program) (B : Nat) (f : FuncId) (g : List AV → AH → Option (AV × AH)) : Prop :=
  ∀ (args : List AV) (h : AH) (v : AV) (h' : AH), g args h = some (v, h') → ∀ (φ : Nat → Loc) (w : World) (args' : List Value), Rel B φ h w → VRs h.ok φ args args' →
    InvR P (fun v' w' => Res B φ h w v h' v' w') ((callFunc f args'.toArray).run P w)

theorem HooksOK.none : HooksOK P B (fun _ => none) := fun f g hg => by cases hg

theorem HooksOK.add {Γ : Hooks} {f : FuncId} {g : List AV → AH → Option (AV × AH)} (hΓ : HooksOK P B Γ) (hg : HookOK P B f g) : HooksOK P B (Γ.add f g) := by
  intro k g' hk k' args h v h' hr φ w args' r ha
  simp only [Hooks.add] at hk
  simp only at hr
  split at hr
  · rename_i e
    subst e
    split at hk
    · rename_i e; subst e; cases hk; exact hg args h v h' hr φ w args' r ha
    · exact hΓ k' g' hk k' args h v h' (by simp [hr]) φ w args' r ha
  · cases hr

theorem HooksOK.hook {Γ : Hooks} {f : FuncId} {g : List AV → AH → Option (AV × AH)} (hΓ : HooksOK P B Γ) (hg : Γ f = some g) : HookOK P B f g := fun args h v h' hr φ w args' r ha =>
  hΓ f g hg f args h v h' (by simp [hr]) φ w args' r ha

/-- A function whose answer names no block, gone through apart from all memory. -/
theorem HookOK.apart {Γ : Hooks} {D : Drawn} (hΓ : HooksOK P B Γ) (hD : ∀ callF, CallOK P B callF → DrawnOK P B (D callF)) (hN : P.funcs.all (fun fn => !(fn.name == "runtime.NumGoroutine")) = true) (f : FuncId) (g : List AV → Option AV)
    (hg : ∀ args v, g args = some v → freeAV v = true ∧ args.all freeAV = true ∧ ∃ n h'', acall P Γ D n f args ⟨0, []⟩ = some (v, h'')) : HookOK P B f (fun args h => (g args).map fun v => (v, h)) := by
  intro args h v h' hr φ w args' r ha
  obtain ⟨v0, hv0, hbb⟩ := map_some hr
  cases hbb
  obtain ⟨hfree, hargs, n, h'', hrun⟩ := hg args v hv0
  have ha' : VRs (⟨0, []⟩ : AH).ok φ args args' := ⟨ha.1, fun i x u hx hu => (ha.2 i x u hx hu).free (free_ids (List.all_eq_true.1 hargs x (List.mem_of_getElem? hx)))⟩
  exact (call_sound hΓ hD hN n f args ⟨0, []⟩ v h'' hrun φ w args' (Rel.empty r.bs φ 0) ha').mono fun v' w' hres => Res.aside r hres (free_ids hfree)

theorem acall_hook {Γ : Hooks} {D : Drawn} {f : FuncId} {g : List AV → AH → Option (AV × AH)} (hg : Γ f = some g) (n : Nat) (args : List AV) (h : AH) : acall P Γ D n f args h = g args h := by
  cases n <;> simp [acall, hg]

theorem acall_succ {Γ : Hooks} {D : Drawn} {n : Nat} {f : FuncId} {fn : Func} {c : Code} (hg : Γ f = none) (hf : P.funcs[f]? = some fn) (hb : fn.body = some c) (args : List AV) (h : AH) {r : AV × AH}
    (hr : (match acode P (acall P Γ D n) (D (acall P Γ D n)) n c (args ++ List.replicate (fn.ntmps - args.length) .undef) h with
          | some (.normal, env', h') => (aresults P env' h' fn.results.toList).map fun vs => (packed vs, h')
          | some (.ret, env', h') => (aresults P env' h' fn.results.toList).map fun vs => (packed vs, h')
          | _ => none) = some r) :
    acall P Γ D (n + 1) f args h = some r := by
  rw [acall]
  simp only [hg, hf, hb]
  exact hr

/-- A law of plain data, out of its hook. -/
theorem law_of_hook {f : FuncId} {g : List AV → AH → Option (AV × AH)} (hg : HookOK P w.heap.size f g) {args : List AV} {args' : List Value} {h' : AH} (ha : VRs (⟨0, []⟩ : AH).ok (fun _ => ⟨0, 0, 0⟩) args args') (hr : g args ⟨0, []⟩ = some (.bool true, h')) {fn : Func} {c : Code}
    (hf : P.funcs[f]? = some fn) (hb : fn.body = some c) (hn : (fn.name == "runtime.NumGoroutine") = false) :
    Calls P f args'.toArray w fun e w' => e = .returned (.bool true) ∧ Below w.heap.size w w' := by
  have := hg args ⟨0, []⟩ _ _ hr _ w args' (Rel.empty (Nat.le_refl _) _ 0) ha
  have hcf : (callFunc f args'.toArray).run P w = .ok (.enter f args'.toArray) w := by
    unfold callFunc
    simp only [Sem.run_bind, run_program, Result.andThen_ok, hf, hn, Bool.false_eq_true, if_false, hb, Option.isNone_some, Sem.run_pure]
  rw [hcf] at this
  refine Calls.mono this ?_
  rintro e w' ⟨v, rfl, φ', hv, r', s'⟩
  cases hv
  exact ⟨rfl, s'.os, s'.tape, s'.output, s'.size, fun k hk => s'.frame k hk fun id o hg => by
    unfold AH.get at hg
    split at hg
    · simp at hg
    · cases hg⟩

end Go.Proofs.YtobhmahlenjheaaM
