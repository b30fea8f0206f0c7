/- Regions in the order of the text, code and calls, held against the model's. -/
import Derived.Test.YtobhmahlenjheaaM12
import Derived.LoopN
set_option linter.unusedSimpArgs false
set_option linter.unusedVariables false
namespace Go.Proofs.YtobhmahlenjheaaM
open Go Go.RowKit

variable {P : Program} {B : Nat} {φ : Nat → Loc} {h : AH} {w : World}

def ActR (N : Nat → Prop) (φ : Nat → Loc) (env : List AV) (a : Act) : Prop := VRs N φ env a.tmps.toList ∧ a.defers = []

theorem put_sound {N : Nat → Prop} {env : List AV} {a : Act} {v : AV} {v' : Value} (he : ActR N φ env a) (hv : VR N φ v v') (d : Option Tmp) : ActR N φ (eput env d v) (a.put d v') := by
  cases d with
  | none => exact he
  | some t =>
    refine ⟨?_, he.2⟩
    show VRs N φ (env.set t v) (a.tmps.setIfInBounds t v').toList
    rw [Array.toList_setIfInBounds]
    exact he.1.set t hv

theorem ActR.mono {N N' : Nat → Prop} {φ φ' : Nat → Loc} (hN : ∀ id, N id → N' id) (hx : ∀ id, N id → φ' id = φ id) {env : List AV} {a : Act} (h : ActR N φ env a) : ActR N' φ' env a := ⟨h.1.mono hN hx, h.2⟩

theorem wanted_sound {N : Nat → Prop} {ops : Array Oper} {o : Oper} {env : List AV} {a : Act} {b : Bool} (hw : awanted ops o env = some b) (he : ActR N φ env a) : Region.wanted o (yielded ops a.tmps) = b := by
  unfold awanted at hw
  unfold Region.wanted
  split at hw
  · rename_i hg; cases hw; simp [hg]
  · rename_i j want hg
    simp only [hg]
    split at hw
    rotate_left
    · cases hw
    rename_i d hd
    split at hw
    · rename_i q hq
      cases hw
      obtain ⟨v, hv, hr⟩ := he.1.at hq
      rw [Array.getElem?_toList] at hv
      cases hr
      have : yielded ops a.tmps j = some q := by simp [yielded, hd, hv]
      rw [this]
      cases q <;> cases want <;> rfl
    · rename_i hq
      cases hw
      obtain ⟨v, hv, hr⟩ := he.1.at hq
      rw [Array.getElem?_toList] at hv
      cases hr with
      | tup _ vs hl _ =>
        have : yielded ops a.tmps j = none := by simp [yielded, hd, hv]
        rw [this]
        cases want <;> rfl
    · cases hw

/-- What holds behind a piece of code, of what the machine came to. -/
def Post (B : Nat) (φ : Nat → Loc) (h : AH) (w : World) (env' : List AV) (h' : AH) (a' : Act) (w' : World) : Prop :=
  ∃ φ', ActR h'.ok φ' env' a' ∧ Rel B φ' h' w' ∧ Step φ h w φ' h' w'

theorem Post.trans {φ φ' : Nat → Loc} {h h1 h2 : AH} {w w1 w2 : World} {env : List AV} {a : Act} (s : Step φ h w φ' h1 w1) (p : Post B φ' h1 w1 env h2 a w2) : Post B φ h w env h2 a w2 :=
  let ⟨φ'', p1, p2, p3⟩ := p; ⟨φ'', p1, p2, s.trans p3⟩

theorem step_sound {callF : CallF} (hC : CallOK P B callF) {ops : Array Oper} {i : Nat} {o : Oper} (hi : ops[i]? = some o) {env env' : List AV} {h' : AH} (hs : astep P callF ops o env h = some (env', h')) {a : Act} (r : Rel B φ h w) (he : ActR h.ok φ env a)
    {K : Act → World → Prop} {Q : Exit → Act → World → Prop} (hn : ∀ a' w', Post B φ h w env' h' a' w' → K a' w') : wpOp P ops Q i K a w := by
  unfold wpOp
  simp only [hi]
  unfold astep at hs
  split at hs
  · rename_i hw
    obtain ⟨⟨v, h1⟩, ho, hbb⟩ := map_some hs
    simp only at hbb
    cases hbb
    simp only [wanted_sound hw he, if_true]
    refine .inl (op_sound hC r ho he.1 fun v' w' hres => ?_)
    obtain ⟨φ', hv, r', s'⟩ := hres
    exact hn _ _ ⟨φ', put_sound (he.mono s'.okm fun id hid => s'.ext id (AH.ok_lt hid)) hv _, r', s'⟩
  · rename_i hw
    cases hs
    simp only [wanted_sound hw he, Bool.false_eq_true, if_false]
    exact hn _ _ ⟨φ, put_sound he (VR.undef _ _) _, r, Step.refl _ _ _⟩
  · cases hs

theorem ops_sound {callF : CallF} (hC : CallOK P B callF) {ops : Array Oper} {Q : Exit → Act → World → Prop} : ∀ (l : List Oper) (k : Nat) (env env' : List AV) (h h' : AH) (φ : Nat → Loc) (a : Act) (w : World),
    ops.toList.drop k = l → aops P callF ops l env h = some (env', h') → Rel B φ h w → ActR h.ok φ env a → (∀ a' w', Post B φ h w env' h' a' w' → Q .normal a' w') → wpOps P ops Q (List.range' k l.length) a w
  | [], k, env, env', h, h', φ, a, w, hl, hs, r, he, hn => by
    simp only [aops] at hs
    cases hs
    exact hn _ _ ⟨φ, he, r, Step.refl _ _ _⟩
  | o :: l, k, env, env', h, h', φ, a, w, hl, hs, r, he, hn => by
    simp only [aops] at hs
    split at hs
    rotate_left
    · cases hs
    rename_i r1 h1
    obtain ⟨env1, hh1⟩ := r1
    have hk : ops[k]? = some o := by
      have : (ops.toList.drop k)[0]? = some o := by rw [hl]; rfl
      rw [List.getElem?_drop] at this
      simpa using this
    have hl' : ops.toList.drop (k + 1) = l := by
      rw [← List.drop_drop, hl]; rfl
    rw [List.length_cons, List.range'_succ, wpOps_cons]
    refine step_sound hC hk h1 r he fun a' w' hp => ?_
    obtain ⟨φ', he', r', s'⟩ := hp
    exact ops_sound hC l (k + 1) env1 env' hh1 h' φ' a' w' hl' hs r' he' fun a'' w'' hp' => hn _ _ (hp'.trans s')

def toE : AX → Exit
  | .normal => .normal
  | .exit id => .exit id
  | .ret => .ret

def DrawnOK (P : Program) (B : Nat) (drawn : Array Oper → List AV → AH → Option (List AV × AH)) : Prop :=
  ∀ (id : Nat) (ops : Array Oper) (env env' : List AV) (h h' : AH), drawn ops env h = some (env', h') → ∀ (φ : Nat → Loc) (a : Act) (w : World) (Q : Exit → Act → World → Prop), Rel B φ h w → ActR h.ok φ env a →
    (∀ a' w', Post B φ h w env' h' a' w' → Q .normal a' w') → (Code.region id ops true).wp P Q a w

def CodeOK (P : Program) (B : Nat) (f : List AV → AH → ARes) (c : Code) : Prop :=
  ∀ (env env' : List AV) (h h' : AH) (x : AX), f env h = some (x, env', h') → ∀ (φ : Nat → Loc) (a : Act) (w : World) (Q : Exit → Act → World → Prop), Rel B φ h w → ActR h.ok φ env a →
    (∀ a' w', Post B φ h w env' h' a' w' → Q (toE x) a' w') → c.wp P Q a w

theorem loop_sound {f : List AV → AH → ARes} {c : Code} (hc : CodeOK P B f c) : ∀ (n : Nat) (env env' : List AV) (h h' : AH) (x : AX), aloop f n env h = some (x, env', h') → ∀ (φ : Nat → Loc) (a : Act) (w : World) (Q : Exit → Act → World → Prop), Rel B φ h w → ActR h.ok φ env a →
    (∀ a' w', Post B φ h w env' h' a' w' → Q (toE x) a' w') → Code.rounds P c Q n a w
  | 0, env, env', h, h', x, hs, _, _, _, _, _, _, _ => by simp [aloop] at hs
  | n + 1, env, env', h, h', x, hs, φ, a, w, Q, r, he, hn => by
    simp only [aloop] at hs
    rw [rounds_succ]
    split at hs
    · rename_i env1 h1 hf
      refine hc env env1 h h1 .normal hf φ a w _ r he fun a' w' hp => ?_
      obtain ⟨φ', he', r', s'⟩ := hp
      exact loop_sound hc n env1 env' h1 h' x hs φ' a' w' Q r' he' fun a'' w'' hp' => hn _ _ (hp'.trans s')
    · rename_i hne
      refine hc env env' h h' x hs φ a w _ r he fun a' w' hp => ?_
      cases x with
      | normal => exact absurd hs (hne _ _)
      | exit id => exact hn _ _ hp
      | ret => exact hn _ _ hp

theorem code_sound {callF : CallF} (hC : CallOK P B callF) {drawn : Array Oper → List AV → AH → Option (List AV × AH)} (hD : DrawnOK P B drawn) (fuel : Nat) : ∀ c : Code, CodeOK P B (acode P callF drawn fuel c) c := by
  intro c
  induction c with
  | skip => intro env env' h h' x hs φ a w Q r he hn; simp only [acode] at hs; cases hs; exact Go.wp_skip (hn _ _ ⟨φ, he, r, Step.refl _ _ _⟩)
  | region id ops draw =>
    intro env env' h h' x hs φ a w Q r he hn
    cases draw with
    | false =>
      simp only [acode] at hs
      obtain ⟨⟨e1, h1⟩, ho, hbb⟩ := map_some hs
      simp only at hbb
      cases hbb
      refine wp_region ?_
      have := ops_sound hC (Q := Q) ops.toList 0 env env' h h' φ a w rfl ho r he hn
      rwa [Array.length_toList, ← List.range_eq_range'] at this
    | true =>
      simp only [acode] at hs
      obtain ⟨⟨e1, h1⟩, ho, hbb⟩ := map_some hs
      simp only at hbb
      cases hbb
      exact hD id ops env env' h h' ho φ a w Q r he hn
  | seq x y ihx ihy =>
    intro env env' h h' e hs φ a w Q r he hn
    simp only [acode] at hs
    refine wp_seq ?_
    split at hs
    · rename_i env1 h1 hf
      refine ihx env env1 h h1 .normal hf φ a w _ r he fun a' w' hp => ?_
      obtain ⟨φ', he', r', s'⟩ := hp
      exact ihy env1 env' h1 h' e hs φ' a' w' Q r' he' fun a'' w'' hp' => hn _ _ (hp'.trans s')
    · rename_i hne
      refine ihx env env' h h' e hs φ a w _ r he fun a' w' hp => ?_
      cases e with
      | normal => exact absurd hs (hne _ _)
      | exit id => exact hn _ _ hp
      | ret => exact hn _ _ hp
  | cond c x y ihx ihy =>
    intro env env' h h' e hs φ a w Q r he hn
    simp only [acode] at hs
    have hv := eval_sound he.1 c
    split at hs
    · rename_i hc
      rw [hc] at hv
      generalize hu : a.eval c = u at hv
      cases hv
      exact wp_cond_true hu (ihx env env' h h' e hs φ a w Q r he hn)
    · rename_i hc
      rw [hc] at hv
      generalize hu : a.eval c = u at hv
      cases hv
      exact wp_cond_false hu (ihy env env' h h' e hs φ a w Q r he hn)
    · cases hs
  | block id c ih =>
    intro env env' h h' e hs φ a w Q r he hn
    simp only [acode] at hs
    refine wp_block ?_
    split at hs
    · rename_i i env1 h1 hf
      cases hs
      refine ih env env' h h' (.exit i) hf φ a w _ r he fun a' w' hp => ?_
      show (if i = id then Q .normal a' w' else Q (.exit i) a' w')
      split
      · rename_i hi; rw [if_pos hi] at hn; exact hn _ _ hp
      · rename_i hi; rw [if_neg hi] at hn; exact hn _ _ hp
    · rename_i hne
      refine ih env env' h h' e hs φ a w _ r he fun a' w' hp => ?_
      cases e with
      | normal => exact hn _ _ hp
      | exit i => exact absurd hs (hne _ _ _)
      | ret => exact hn _ _ hp
  | loop c ih =>
    intro env env' h h' e hs φ a w Q r he hn
    simp only [acode] at hs
    exact wp_loop_rounds fuel (loop_sound ih fuel env env' h h' e hs φ a w Q r he hn)
  | exit id => intro env env' h h' x hs φ a w Q r he hn; simp only [acode] at hs; cases hs; exact wp_exit (hn _ _ ⟨φ, he, r, Step.refl _ _ _⟩)
  | scope c ih =>
    intro env env' h h' e hs φ a w Q r he hn
    simp only [acode] at hs
    refine wp_scope_straight ?_
    refine ih env env' h h' e hs φ a w _ r he fun a' w' hp => ?_
    cases e <;> exact hn _ _ hp
  | label l => intro env env' h h' x hs φ a w Q r he hn; simp only [acode] at hs; cases hs; exact wp_label (hn _ _ ⟨φ, he, r, Step.refl _ _ _⟩)
  | ret => intro env env' h h' x hs φ a w Q r he hn; simp only [acode] at hs; cases hs; exact wp_ret (hn _ _ ⟨φ, he, r, Step.refl _ _ _⟩)
  | goto l => intro env env' h h' x hs; simp [acode] at hs
  | rangeFunc f ps x y _ _ => intro env env' h h' e hs; simp [acode] at hs
  | refuse why => intro env env' h h' x hs; simp [acode] at hs

/-! ### Calls -/
def resOf (tmps : Array Value) : ResultVar → Sem Value
  | .tmp t => pure (tmps.getD t undef)
  | .cell a t => do loadVar t (← asAddr (tmps.getD a undef))

theorem result_sound (r : Rel B φ h w) {env : List AV} {tmps : Array Value} (he : VRs h.ok φ env tmps.toList) {rv : ResultVar} {x : AV} (hx : aresult P env h rv = some x) :
    ∃ v, (resOf tmps rv).run P w = .ok v w ∧ VR h.ok φ x v := by
  have hev := fun t => eval_sound (a := ⟨tmps, []⟩) he (.tmp t)
  cases rv with
  | tmp t => simp only [aresult] at hx; cases hx; exact ⟨_, rfl, hev t⟩
  | cell p t =>
    simp only [aresult] at hx
    have hp : VR h.ok φ (env.getD p .undef) (tmps.getD p undef) := hev p
    obtain ⟨u, hu, hr⟩ := run_loadVar' r hx hp
    refine ⟨u, ?_, hr⟩
    show (asAddr (tmps.getD p undef) >>= fun a => loadVar t a).run P w = _
    generalize tmps.getD p undef = q at hp hu ⊢
    generalize env.getD p .undef = y at hp hx
    cases hp with
    | ptr id off hid =>
      simp only [Instr.loadAt, Instr.sureAddr, Sem.run_bind, Sem.run_pure, Result.andThen_ok] at hu
      simp only [asAddr, Sem.run_bind, Sem.run_pure, Result.andThen_ok, hu]
    | val q =>
      cases q with
      | pointer a =>
        cases a with
        | none => simp [aload] at hx
        | some a =>
          simp only [Instr.loadAt, Instr.sureAddr, Sem.run_bind, Sem.run_pure, Result.andThen_ok] at hu
          simp only [asAddr, Sem.run_bind, Sem.run_pure, Result.andThen_ok, hu]
      | _ => simp [aload] at hx
    | _ => simp [aload] at hx

theorem results_list (r : Rel B φ h w) {env : List AV} {tmps : Array Value} (he : VRs h.ok φ env tmps.toList) : ∀ (rs : List ResultVar) (xs : List AV), aresults P env h rs = some xs →
    ∃ vs : List Value, (rs.mapM (resOf tmps)).run P w = .ok vs w ∧ VRs h.ok φ xs vs
  | [], xs, hx => by simp only [aresults] at hx; cases hx; exact ⟨[], rfl, VRs.nil _ _⟩
  | rv :: rs, xs, hx => by
    simp only [aresults] at hx
    split at hx
    · rename_i y ys hy hys
      cases hx
      obtain ⟨v, hv, hr⟩ := result_sound r he hy
      obtain ⟨vs, hvs, hrs⟩ := results_list r he rs ys hys
      refine ⟨v :: vs, ?_, VRs.cons hr hrs⟩
      simp only [List.mapM_cons, Sem.run_bind]
      rw [hv]
      simp only [Result.andThen_ok, hvs, Sem.run_pure]
    · cases hx

theorem packed_sound {N : Nat → Prop} {xs : List AV} {vs : List Value} (h : VRs N φ xs vs) : VR N φ (packed xs) (if h : vs.toArray.size = 1 then vs.toArray[0] else .tuple vs.toArray) := by
  match xs, vs, h with
  | [x], [v], h => exact h.head
  | [], [], h => exact VR.tups h
  | x :: y :: xs, u :: v :: vs, h =>
    rw [dif_neg (by simp)]
    exact VR.tups h
  | [], _ :: _, h => exact absurd h.1 (by simp)
  | _ :: _, [], h => exact absurd h.1 (by simp)
  | [_], _ :: _ :: _, h => exact absurd h.1 (by simp)
  | _ :: _ :: _, [_], h => exact absurd h.1 (by simp)

theorem results_sound (r : Rel B φ h w) {fn : Func} {env : List AV} {tmps : Array Value} (he : VRs h.ok φ env tmps.toList) {xs : List AV} (hx : aresults P env h fn.results.toList = some xs) :
    ∃ v, (results fn tmps).run P w = .ok v w ∧ VR h.ok φ (packed xs) v := by
  obtain ⟨vs, hvs, hr⟩ := results_list r he _ xs hx
  refine ⟨_, ?_, packed_sound hr⟩
  have e0 : results fn tmps = (do let vs ← fn.results.mapM (resOf tmps); pure (if h : vs.size = 1 then vs[0] else .tuple vs)) := by
    unfold results
    congr 1
  rw [e0, Array.mapM_eq_mapM_toList]
  simp only [Sem.run_bind, Sem.run_map, hvs, Result.andThen_ok, Sem.run_pure]

def HooksOK (P : Program) (B : Nat) (Γ : Hooks) : Prop := ∀ f g, Γ f = some g → CallOK P B (fun f' args h => if f' = f then g args h else none)

theorem call_sound {Γ : Hooks} {D : Drawn} (hH : HooksOK P B Γ) (hD : ∀ callF, CallOK P B callF → DrawnOK P B (D callF)) (hN : P.funcs.all (fun fn => !(fn.name == "runtime.NumGoroutine")) = true) : ∀ n, CallOK P B (acall P Γ D n) := by
  have hook : ∀ f g args h v h', Γ f = some g → g args h = some (v, h') → ∀ (φ : Nat → Loc) (w : World) (args' : List Value), Rel B φ h w → VRs h.ok φ args args' →
      InvR P (fun v' w' => Res B φ h w v h' v' w') ((callFunc f args'.toArray).run P w) := fun f g args h v h' hg hr φ w args' r ha =>
    hH f g hg f args h v h' (by simp [hr]) φ w args' r ha
  intro n
  induction n with
  | zero =>
    intro f args h v h' hs φ w args' r ha
    simp only [acall] at hs
    split at hs
    · rename_i g hg; exact hook f g args h v h' hg hs φ w args' r ha
    · cases hs
  | succ n ih =>
    intro f args h v h' hs φ w args' r ha
    simp only [acall] at hs
    split at hs
    · rename_i g hg; exact hook f g args h v h' hg hs φ w args' r ha
    split at hs
    rotate_left
    · cases hs
    rename_i fn hf
    split at hs
    rotate_left
    · cases hs
    rename_i c hb
    have hname : (fn.name == "runtime.NumGoroutine") = false := by
      have hm : fn ∈ P.funcs := Array.mem_of_getElem? hf
      have := Array.all_eq_true_iff_forall_mem.1 hN fn hm
      simpa using this
    have hcf : (callFunc f args'.toArray).run P w = .ok (.enter f args'.toArray) w := by
      unfold callFunc
      simp only [Sem.run_bind, run_program, Result.andThen_ok, hf, hname, Bool.false_eq_true, if_false, hb, Option.isNone_some, Sem.run_pure]
    rw [hcf]
    have hact : ActR h.ok φ (args ++ List.replicate (fn.ntmps - args.length) .undef) { tmps := args'.toArray ++ Array.replicate (fn.ntmps - args'.toArray.size) undef, defers := [] } := by
      refine ⟨?_, rfl⟩
      have hl := ha.1
      have e : (args'.toArray ++ Array.replicate (fn.ntmps - args'.toArray.size) undef).toList = args' ++ List.replicate (fn.ntmps - args.length) undef := by simp [hl]
      show VRs _ _ _ (args'.toArray ++ Array.replicate (fn.ntmps - args'.toArray.size) undef).toList
      rw [e]
      refine ha.append ⟨by simp, fun i x u hx hu => ?_⟩
      rw [List.getElem?_replicate] at hx hu
      split at hx
      · rename_i hi; rw [if_pos hi] at hu; cases hx; cases hu; exact VR.undef _ _
      · cases hx
    have fin : ∀ (x : AX) (env' : List AV) (h1 : AH), toE x = .normal ∨ toE x = .ret → acode P (acall P Γ D n) (D (acall P Γ D n)) n c (args ++ List.replicate (fn.ntmps - args.length) .undef) h = some (x, env', h1) →
        ((aresults P env' h1 fn.results.toList).map fun vs => (packed vs, h1)) = some (v, h') → Calls P f args'.toArray w (fun e w' => ∃ v', e = .returned v' ∧ Res B φ h w v h' v' w') := by
      intro x env' h1 hx hco hres
      obtain ⟨xs, hxs, hbb⟩ := map_some hres
      cases hbb
      refine calls_of_wp hf hb ?_
      refine code_sound ih (hD _ ih) n c _ _ _ _ x hco φ _ w _ r hact fun a' w' hp => ?_
      obtain ⟨φ', he', r', s'⟩ := hp
      obtain ⟨u, hu, hr⟩ := results_sound (P := P) r' he'.1 hxs
      have hpost : a'.defers = [] ∧ ∃ v0, (results fn a'.tmps).run P w' = .ok v0 w' ∧ ∃ v', Ending.returned v0 = .returned v' ∧ Res B φ h w (packed xs) _ v' w' := ⟨he'.2, u, hu, u, rfl, φ', hr, r', s'⟩
      rcases hx with hx | hx <;> rw [hx] <;> exact hpost
    show Calls P f args'.toArray w _
    split at hs
    · rename_i env' h1 hco; exact fin .normal env' h1 (.inl rfl) hco hs
    · rename_i env' h1 hco; exact fin .ret env' h1 (.inr rfl) hco hs
    · cases hs

end Go.Proofs.YtobhmahlenjheaaM
