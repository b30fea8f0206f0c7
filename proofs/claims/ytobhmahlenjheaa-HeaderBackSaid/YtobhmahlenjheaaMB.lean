/- The abstract machine: its runs are runs of the model (second part). -/
import Derived.Test.YtobhmahlenjheaaMA
import Derived.LoopN
import Derived.Laws.Externs
namespace Go.Proofs.YtobhmahlenjheaaM
/-! M12 -/
section
set_option linter.unusedSimpArgs false
set_option linter.unusedVariables false
open Go Go.RowKit

variable {P : Program} {B : Nat} {φ : Nat → Loc} {h : AH} {w : World}

/-- What a call's first step comes to. -/
def InvR (P : Program) (K : Value → World → Prop) : Result Next → Prop
  | .ok (.value v) w => K v w
  | .ok (.enter f a) w => Calls P f a w (fun e w' => ∃ v, e = .returned v ∧ K v w')
  | _ => False

def CallOK (P : Program) (B : Nat) (callF : CallF) : Prop :=
  ∀ (f : FuncId) (args : List AV) (h : AH) (v : AV) (h' : AH), callF f args h = some (v, h') → ∀ (φ : Nat → Loc) (w : World) (args' : List Value), Rel B φ h w → VRs h.ok φ args args' →
    InvR P (fun v' w' => Res B φ h w v h' v' w') ((callFunc f args'.toArray).run P w)

theorem eval_sound {N : Nat → Prop} {env : List AV} {a : Act} (he : VRs N φ env a.tmps.toList) (x : Operand) : VR N φ (evalOp env x) (a.eval x) := by
  cases x with
  | tmp t =>
    simp only [evalOp, Act.eval]
    by_cases ht : t < env.length
    · have hx : env[t]? = some (env.getD t .undef) := by simp [List.getD, List.getElem?_eq_getElem ht]
      obtain ⟨v, hv, hr⟩ := he.at hx
      rw [Array.getElem?_toList] at hv
      have : a.tmps.getD t Go.undef = v := by rw [Array.getD_eq_getD_getElem?, hv]; rfl
      rw [this]
      exact hr
    · have hl : env.length = a.tmps.size := by simpa using he.1
      have ht' : env.length ≤ t := Nat.le_of_not_lt ht
      have ht'' : a.tmps.size ≤ t := hl ▸ ht'
      have e1 : env.getD t .undef = .undef := by rw [List.getD_eq_getElem?_getD, List.getElem?_eq_none ht']; rfl
      have e2 : a.tmps.getD t Go.undef = Go.undef := by rw [Array.getD_eq_getD_getElem?, Array.getElem?_eq_none ht'']; rfl
      rw [e1, e2]
      exact VR.undef _ _
  | const v => exact VR.ofValue _ _ v
  | global g => exact .val _
  | func f => exact .func (.func f) [] [] #[] #[] rfl rfl (fun i x v hx _ => by simp at hx) (fun i x v hx _ => by simp at hx)

theorem evals_sound {N : Nat → Prop} {env : List AV} {a : Act} (he : VRs N φ env a.tmps.toList) (xs : List Operand) : VRs N φ (xs.map (evalOp env)) (xs.map a.eval) :=
  ⟨by simp, fun i x v hx hv => by
    rw [List.getElem?_map] at hx hv
    cases hi : xs[i]? with
    | none => rw [hi] at hx; cases hx
    | some o => rw [hi] at hx hv; cases hx; cases hv; exact eval_sound he o⟩

theorem parts_sound {N : Nat → Prop} {env : List AV} {a : Act} (he : VRs N φ env a.tmps.toList) (ps : List (Nat × Operand)) : partsR N φ (ps.map fun p => (p.1, evalOp env p.2)) (ps.map fun p => (p.1, a.eval p.2)) :=
  ⟨by simp, fun i p q hp hq => by
    rw [List.getElem?_map] at hp hq
    cases hi : ps[i]? with
    | none => rw [hi] at hp; cases hp
    | some o => rw [hi] at hp hq; cases hp; cases hq; exact ⟨rfl, eval_sound he o.2⟩⟩

theorem ovr_sound {N : Nat → Prop} {env : List AV} {a : Act} (he : VRs N φ env a.tmps.toList) (o : Option Operand) : OVR N φ (o.map (evalOp env)) (o.map a.eval) := by
  cases o with
  | none => trivial
  | some x => exact eval_sound he x

section
variable {a : Act} {next : Act → World → Prop} {Q : Exit → Act → World → Prop} {o : Oper}

theorem wp_value {v' : Value} {w' : World} (hr : (execOp a.eval o).run P w = .ok (.value v') w') (hn : next (a.put o.dst v') w') : o.wp P a w next Q := by
  unfold Oper.wp; rw [hr]; exact hn
theorem wp_skip {w' : World} (hr : (execOp a.eval o).run P w = .ok .skip w') (hn : next (a.put o.dst Go.undef) w') : o.wp P a w next Q := by
  unfold Oper.wp; rw [hr]; exact hn
end

theorem run_v {s : Sem Value} {v' : Value} {w' : World} (hs : s.run P w = .ok v' w') : (do pure (Next.value (← s)) : Sem Next).run P w = .ok (.value v') w' := by simp [hs]
theorem run_u {s : Sem Unit} {w' : World} (hs : s.run P w = .ok () w') : (do s; pure Next.skip : Sem Next).run P w = .ok .skip w' := by simp [hs]

theorem builtin_sound (r : Rel B φ h w) {b : Builtin} {at_ : Array TypeId} {ty : TypeId} {cs : Array Bool} {args : List AV} {args' : List Value} {v : AV} {h' : AH} (hb : abuiltin P b at_ args h = some (v, h')) (ha : VRs h.ok φ args args') :
    ∃ v' w', (builtin b at_ ty cs args'.toArray).run P w = .ok (.value v') w' ∧ Res B φ h w v h' v' w' := by
  unfold abuiltin at hb
  split at hb
  · split at hb
    · rename_i t x h0
      obtain ⟨x', rfl, hx⟩ := one_arg ha
      cases hl : alenOf P t x h with
      | none => simp [hl] at hb
      | some v0 =>
        simp [hl] at hb
        obtain ⟨rfl, rfl⟩ := hb
        obtain ⟨v', hr, hv⟩ := len_sound (ty := ty) r h0 hl hx
        exact ⟨v', w, run_v hr, Res.pure r hv⟩
    · cases hb
  · obtain ⟨v', w', hr, hres⟩ := append_sound (ty := ty) r hb ha
    exact ⟨v', w', run_v hr, hres⟩
  · obtain ⟨v', w', hr, hres⟩ := copy_sound (ty := ty) r hb ha
    exact ⟨v', w', run_v hr, hres⟩
  · obtain ⟨v', w', hr, hres⟩ := clear_sound (ty := ty) r hb ha
    exact ⟨v', w', run_v hr, hres⟩
  · split at hb
    · rename_i t h0
      obtain ⟨x', rfl, hx⟩ := one_arg ha
      split at hb
      · rename_i e hu
        cases hx
        cases hb
        exact ⟨_, w, run_v (by simp [Builtin.cap_, h0, run_underlying hu, goInt]), Res.pure r (.int _ _)⟩
      · cases hb
    · cases hb
  · cases hm : amaxmin true args with
    | none => simp [hm] at hb
    | some v0 =>
      simp [hm] at hb
      obtain ⟨rfl, rfl⟩ := hb
      obtain ⟨v', hr, hv⟩ := maxmin_sound (P := P) true hm ha at_ ty w
      exact ⟨v', w, run_v hr, Res.pure r hv⟩
  · cases hm : amaxmin false args with
    | none => simp [hm] at hb
    | some v0 =>
      simp [hm] at hb
      obtain ⟨rfl, rfl⟩ := hb
      obtain ⟨v', hr, hv⟩ := maxmin_sound (P := P) false hm ha at_ ty w
      exact ⟨v', w, run_v hr, Res.pure r hv⟩
  · obtain ⟨v', w', hr, hres⟩ := sliceData_sound (P := P) (at_ := at_) (ty := ty) r hb ha
    exact ⟨v', w', run_v hr, hres⟩
  · split at hb
    · rename_i pt p n h0
      obtain ⟨p', u', rfl, hp, hu⟩ := two_args ha
      cases hu
      obtain ⟨v', w', hr, hres⟩ := unsafeString_sound (P := P) (ty := ty) r h0 hb hp
      exact ⟨v', w', run_v hr, hres⟩
    · cases hb
  · cases hb

theorem map_some {α β : Type} {o : Option α} {f : α → β} {b : β} (h : o.map f = some b) : ∃ a, o = some a ∧ f a = b := by
  cases o with
  | none => cases h
  | some a => exact ⟨a, rfl, Option.some.inj h⟩

set_option maxHeartbeats 1000000 in
theorem op_sound {callF : CallF} (hC : CallOK P B callF) (r : Rel B φ h w) {env : List AV} {a : Act} {o : Oper} {v : AV} {h' : AH} (ho : aop P callF env o.op h = some (v, h')) (he : VRs h.ok φ env a.tmps.toList)
    {next : Act → World → Prop} {Q : Exit → Act → World → Prop} (hn : ∀ v' w', Res B φ h w v h' v' w' → next (a.put o.dst v') w') : o.wp P a w next Q := by
  obtain ⟨dst, op, type, pos, after, guard⟩ := o
  have E := fun x => eval_sound (φ := φ) he x
  unfold aop at ho
  cases op with
  | move x => cases ho; exact wp_value rfl (hn _ _ (Res.pure r (E x)))
  | assign x => cases ho; exact wp_value rfl (hn _ _ (Res.pure r (E x)))
  | pick c x y =>
    simp only at ho
    split at ho
    · rename_i t hc
      cases ho
      have hcv := E c
      rw [hc] at hcv
      cases hb : a.eval c with
      | bool b =>
        rw [hb] at hcv; cases hcv
        refine wp_value (v' := if t then a.eval x else a.eval y) (w' := w) ?_ (hn _ _ (Res.pure r ?_))
        · simp [execOp, hb, asBool]
        · cases t
          · exact E y
          · exact E x
      | _ => rw [hb] at hcv; cases hcv
    · cases ho
  | alloc e =>
    simp only at ho
    split at ho
    · rename_i z hz
      obtain ⟨cs, hcs, hbb⟩ := map_some ho
      cases hbb
      obtain ⟨v', w', hr, hres⟩ := alloc_sound r hz hcs
      exact wp_value (run_v hr) (hn _ _ hres)
    · cases ho
  | box e x =>
    obtain ⟨cs, hcs, hbb⟩ := map_some ho
    cases hbb
    obtain ⟨v', w', hr, hres⟩ := box_sound (P := P) (e := e) r hcs (E x)
    exact wp_value (run_v hr) (hn _ _ hres)
  | build t ps =>
    obtain ⟨x, hx, hbb⟩ := map_some ho
    cases hbb
    obtain ⟨v', hr, hv⟩ := build_sound hx (parts_sound (φ := φ) he ps.toList) w
    refine wp_value (run_v ?_) (hn _ _ (Res.pure r hv))
    have e1 : (ps.map fun (i, x) => (i, a.eval x)) = (ps.toList.map fun p => (p.1, a.eval p.2)).toArray := by apply Array.ext'; simp
    rw [e1]
    exact hr
  | buildSlice t n ps =>
    obtain ⟨v', w', hr, hres⟩ := buildSlice_sound r ho (parts_sound (φ := φ) he ps.toList)
    refine wp_value (run_v ?_) (hn _ _ hres)
    have e1 : (ps.map fun (i, x) => (i, a.eval x)) = (ps.toList.map fun p => (p.1, a.eval p.2)).toArray := by apply Array.ext'; simp
    rw [e1]
    exact hr
  | load t x =>
    obtain ⟨y, hy, hbb⟩ := map_some ho
    cases hbb
    obtain ⟨u, hu, hr⟩ := run_loadVar' r hy (E x)
    exact wp_value (run_v hu) (hn _ _ (Res.pure r hr))
  | store t x y =>
    obtain ⟨h1, hh, hbb⟩ := map_some ho
    cases hbb
    obtain ⟨w', hr, hres⟩ := store_sound r hh (E x) (E y)
    exact wp_skip (run_u hr) (hn _ _ hres)
  | nilCheck x =>
    have hx := E x
    simp only at ho
    split at ho
    · rename_i id off hc; cases ho
      rw [hc] at hx
      refine wp_value (v' := a.eval x) ?_ (hn _ _ (Res.pure r hx))
      simp only [execOp]
      generalize a.eval x = u at hx ⊢
      cases hx
      rfl
    · rename_i f p q hc; cases ho
      rw [hc] at hx
      refine wp_value (v' := a.eval x) ?_ (hn _ _ (Res.pure r hx))
      simp only [execOp]
      generalize a.eval x = u at hx ⊢
      cases hx
      rfl
    · rename_i p q s t hc; cases ho
      rw [hc] at hx
      refine wp_value (v' := a.eval x) ?_ (hn _ _ (Res.pure r hx))
      simp only [execOp]
      generalize a.eval x = u at hx ⊢
      cases hx
      rfl
    · rename_i id hc; cases ho
      rw [hc] at hx
      refine wp_value (v' := a.eval x) ?_ (hn _ _ (Res.pure r hx))
      simp only [execOp]
      generalize a.eval x = u at hx ⊢
      cases hx
      rfl
    · rename_i q hc; cases ho
      rw [hc] at hx
      refine wp_value (v' := a.eval x) ?_ (hn _ _ (Res.pure r hx))
      simp only [execOp]
      generalize a.eval x = u at hx ⊢
      cases hx
      rfl
    · cases ho
  | binOp op t x y ty =>
    obtain ⟨z, hz, hbb⟩ := map_some ho
    cases hbb
    obtain ⟨v', hr, hv⟩ := bin_sound hz (E x) (E y) w
    exact wp_value (run_v hr) (hn _ _ (Res.pure r hv))
  | unOp op t x =>
    obtain ⟨z, hz, hbb⟩ := map_some ho
    cases hbb
    obtain ⟨v', hr, hv⟩ := un_sound (P := P) hz (E x) w
    exact wp_value (run_v hr) (hn _ _ (Res.pure r hv))
  | convert s d x =>
    obtain ⟨v', w', hr, hres⟩ := conv_sound r ho (E x)
    exact wp_value (run_v hr) (hn _ _ hres)
  | makeInterface t x =>
    simp only at ho
    split at ho
    · cases ho
    · rename_i d hni hu
      cases ho
      refine wp_value (run_v (v' := .iface t (a.eval x)) ?_) (hn _ _ (Res.pure r (.iface _ _ _ (E x))))
      simp only [Instr.makeInterface, Sem.run_bind, run_underlying hu, Result.andThen_ok]
      cases d <;> first | exact absurd rfl (hni _) | rfl
    · cases ho
  | makeFunc fn first cap =>
    cases ho
    refine wp_value (run_v (v' := .func fn (first.map a.eval) (cap.map a.eval)) rfl) (hn _ _ (Res.pure r ?_))
    have h1 := evals_sound (φ := φ) he first.toList
    have h2 := evals_sound (φ := φ) he cap.toList
    exact .func fn _ _ _ _ (by simp) (by simp) (fun i x v hx hv => h1.2 i x v hx (by simpa using hv)) (fun i x v hx hv => h2.2 i x v hx (by simpa using hv))
  | makeMap t re =>
    cases re with
    | some x => cases ho
    | none =>
      cases ho
      obtain ⟨r', s'⟩ := r.push (.map [] 0) (.map #[] 0) ⟨w.heap.size, 0, 0⟩ rfl ⟨#[], rfl, rfl, fun i a e ha _ => by simp at ha⟩
      refine wp_value (run_v (v' := .map (some w.heap.size)) (w' := w.alloc (.map #[] 0)) rfl) (hn _ _ ⟨_, ?_, r', s'⟩)
      have := VR.map (N := (h.push (.map [] 0)).ok) (φ := ext1 φ h.n ⟨w.heap.size, 0, 0⟩) h.n (AH.ok_new _ _)
      rw [ext1_new] at this
      exact this
  | makeSlice t l c =>
    obtain ⟨v', w', hr, hres⟩ := makeSlice_sound r ho (E l) (E c)
    exact wp_value (run_v hr) (hn _ _ hres)
  | slice t x lo hi mx =>
    obtain ⟨z, hz, hbb⟩ := map_some ho
    cases hbb
    obtain ⟨v', hr, hv⟩ := slice_sound r hz (E x) (ovr_sound he lo) (ovr_sound he hi) (ovr_sound he mx)
    exact wp_value (run_v hr) (hn _ _ (Res.pure r hv))
  | fieldAddr s x f =>
    obtain ⟨z, hz, hbb⟩ := map_some ho
    cases hbb
    obtain ⟨v', hr, hv⟩ := fieldAddr_sound hz (E x) w
    exact wp_value (run_v hr) (hn _ _ (Res.pure r hv))
  | field t x f =>
    obtain ⟨z, hz, hbb⟩ := map_some ho
    cases hbb
    obtain ⟨v', hr, hv⟩ := field_sound hz (E x) w
    exact wp_value (run_v hr) (hn _ _ (Res.pure r hv))
  | indexAddr t x i =>
    obtain ⟨z, hz, hbb⟩ := map_some ho
    cases hbb
    obtain ⟨v', hr, hv⟩ := indexAddr_sound hz (E x) (E i) w
    exact wp_value (run_v hr) (hn _ _ (Res.pure r hv))
  | index t x i =>
    obtain ⟨z, hz, hbb⟩ := map_some ho
    cases hbb
    obtain ⟨v', hr, hv⟩ := index_sound hz (E x) (E i) w
    exact wp_value (run_v hr) (hn _ _ (Res.pure r hv))
  | lookup t m k ok =>
    obtain ⟨z, hz, hbb⟩ := map_some ho
    cases hbb
    obtain ⟨v', hr, hv⟩ := lookup_sound r hz (E m) (E k)
    exact wp_value (run_v hr) (hn _ _ (Res.pure r hv))
  | mapUpdate t m k x =>
    obtain ⟨h1, hh, hbb⟩ := map_some ho
    cases hbb
    obtain ⟨w', hr, hres⟩ := mapUpdate_sound r hh (E m) (E k) (E x)
    exact wp_skip (run_u hr) (hn _ _ hres)
  | insert t m k x =>
    obtain ⟨h1, hh, hbb⟩ := map_some ho
    cases hbb
    obtain ⟨w', hr, hres⟩ := mapUpdate_sound r hh (E m) (E k) (E x)
    exact wp_skip (run_u hr) (hn _ _ hres)
  | mapEntry t m k =>
    obtain ⟨v', w', hr, hres⟩ := mapEntry_sound r ho (E m) (E k)
    exact wp_value (run_v hr) (hn _ _ hres)
  | entryStore t m s x =>
    obtain ⟨h1, hh, hbb⟩ := map_some ho
    cases hbb
    obtain ⟨w', hr, hres⟩ := entryStore_sound (t := t) (P := P) r hh (E m) (E s) (E x)
    exact wp_skip (run_u hr) (hn _ _ hres)
  | range t x =>
    obtain ⟨v', w', hr, hres⟩ := range_sound r ho (E x)
    exact wp_value (run_v hr) (hn _ _ hres)
  | next it s =>
    obtain ⟨v', w', hr, hres⟩ := next_sound (P := P) (ty := type) r ho (E it)
    exact wp_value (run_v hr) (hn _ _ hres)
  | typeAssert x xt t ok =>
    obtain ⟨z, hz, hbb⟩ := map_some ho
    cases hbb
    obtain ⟨v', hr, hv⟩ := typeAssert_sound (xt := xt) hz (E x) w
    exact wp_value (run_v hr) (hn _ _ (Res.pure r hv))
  | extract x i =>
    have hx := E x
    simp only at ho
    split at ho
    · rename_i xs hc
      rw [hc] at hx
      obtain ⟨z, hz, hbb⟩ := map_some ho
      cases hbb
      generalize hu : a.eval x = u at hx
      cases hx with
      | tup _ vs hl hv =>
        have hlt : i < vs.size := by
          rcases Nat.lt_or_ge i xs.length with h' | h'
          · omega
          · rw [List.getElem?_eq_none h'] at hz; cases hz
        have hg := Array.getElem?_eq_getElem hlt
        refine wp_value (run_v (v' := vs[i]) ?_) (hn _ _ (Res.pure r (hv i _ _ hz hg)))
        simp [hu, Instr.extract, hg]
    · cases ho
  | call c =>
    simp only [acall1] at ho
    have hargs := evals_sound (φ := φ) he c.args.toList
    have e1 : (c.args.toList.map a.eval).toArray = c.args.map a.eval := by apply Array.ext'; simp
    split at ho
    · rename_i b hb
      obtain ⟨v', w', hr, hres⟩ := builtin_sound (ty := type) (cs := c.args.map fun | .const _ => true | _ => false) r ho hargs
      rw [e1] at hr
      refine wp_value ?_ (hn _ _ hres)
      simp only [execOp, resolve, hb, Sem.run_bind, Sem.run_pure, Result.andThen_ok]
      exact hr
    · rename_i f hf
      split at ho
      · rename_i g first cap hg
        have hfv := E f
        rw [hg] at hfv
        generalize hu : a.eval f = u at hfv
        cases hfv with
        | func _ _ _ us vs hl hl' k1 k2 =>
          have v1 : VRs h.ok φ first us.toList := ⟨by simpa using hl, fun i x v hx hv => k1 i x v hx (by simpa using hv)⟩
          have v2 : VRs h.ok φ cap vs.toList := ⟨by simpa using hl', fun i x v hx hv => k2 i x v hx (by simpa using hv)⟩
          have hinv := hC g _ h v h' ho φ w _ r ((v1.append hargs).append v2)
          have e2 : ((us.toList ++ c.args.toList.map a.eval) ++ vs.toList).toArray = us ++ c.args.map a.eval ++ vs := by apply Array.ext'; simp
          rw [e2] at hinv
          unfold Oper.wp
          have hrun : (execOp a.eval { dst := dst, op := .call c, type := type, pos := pos, after := after, guard := guard : Oper }).run P w = (callFunc g (us ++ c.args.map a.eval ++ vs)).run P w := by
            simp only [execOp, resolve, hf, hu, Deferred.ofValue, Sem.run_bind, Sem.run_pure, Result.andThen_ok, invoke]
          rw [hrun]
          generalize (callFunc g (us ++ c.args.map a.eval ++ vs)).run P w = res at hinv
          unfold InvR at hinv
          split at hinv
          · exact hn _ _ hinv
          · refine Calls.mono hinv ?_
            rintro e w' ⟨u', rfl, hu'⟩
            exact hn _ _ hu'
          · exact hinv.elim
      · cases ho
    · cases ho
  | _ => cases ho


end
/-! M13 -/
section
set_option linter.unusedSimpArgs false
set_option linter.unusedVariables false
open Go Go.RowKit

variable {P : Program} {B : Nat} {φ : Nat → Loc} {h : AH} {w : World}

def ActR (N : Nat → Prop) (φ : Nat → Loc) (env : List AV) (a : Act) : Prop := VRs N φ env a.tmps.toList ∧ a.defers = []

theorem put_sound {N : Nat → Prop} {env : List AV} {a : Act} {v : AV} {v' : Value} (he : ActR N φ env a) (hv : VR N φ v v') (d : Option Tmp) : ActR N φ (eput env d v) (a.put d v') := by
  cases d with
  | none => exact he
  | some t =>
    refine ⟨?_, he.2⟩
    show VRs N φ (env.set t v) (a.tmps.setIfInBounds t v').toList
    rw [Array.toList_setIfInBounds]
    exact he.1.set t hv

theorem ActR.mono {N N' : Nat → Prop} {φ φ' : Nat → Loc} (hN : ∀ id, N id → N' id) (hx : ∀ id, N id → φ' id = φ id) {env : List AV} {a : Act} (h : ActR N φ env a) : ActR N' φ' env a := ⟨h.1.mono hN hx, h.2⟩

theorem wanted_sound {N : Nat → Prop} {ops : Array Oper} {o : Oper} {env : List AV} {a : Act} {b : Bool} (hw : awanted ops o env = some b) (he : ActR N φ env a) : Region.wanted o (yielded ops a.tmps) = b := by
  unfold awanted at hw
  unfold Region.wanted
  split at hw
  · rename_i hg; cases hw; simp [hg]
  · rename_i j want hg
    simp only [hg]
    split at hw
    rotate_left
    · cases hw
    rename_i d hd
    split at hw
    · rename_i q hq
      cases hw
      obtain ⟨v, hv, hr⟩ := he.1.at hq
      rw [Array.getElem?_toList] at hv
      cases hr
      have : yielded ops a.tmps j = some q := by simp [yielded, hd, hv]
      rw [this]
      cases q <;> cases want <;> rfl
    · rename_i hq
      cases hw
      obtain ⟨v, hv, hr⟩ := he.1.at hq
      rw [Array.getElem?_toList] at hv
      cases hr with
      | tup _ vs hl _ =>
        have : yielded ops a.tmps j = none := by simp [yielded, hd, hv]
        rw [this]
        cases want <;> rfl
    · cases hw

/-- What holds behind a piece of code, of what the machine came to. -/
def Post (B : Nat) (φ : Nat → Loc) (h : AH) (w : World) (env' : List AV) (h' : AH) (a' : Act) (w' : World) : Prop :=
  ∃ φ', ActR h'.ok φ' env' a' ∧ Rel B φ' h' w' ∧ Step φ h w φ' h' w'

theorem Post.trans {φ φ' : Nat → Loc} {h h1 h2 : AH} {w w1 w2 : World} {env : List AV} {a : Act} (s : Step φ h w φ' h1 w1) (p : Post B φ' h1 w1 env h2 a w2) : Post B φ h w env h2 a w2 :=
  let ⟨φ'', p1, p2, p3⟩ := p; ⟨φ'', p1, p2, s.trans p3⟩

theorem step_sound {callF : CallF} (hC : CallOK P B callF) {ops : Array Oper} {i : Nat} {o : Oper} (hi : ops[i]? = some o) {env env' : List AV} {h' : AH} (hs : astep P callF ops o env h = some (env', h')) {a : Act} (r : Rel B φ h w) (he : ActR h.ok φ env a)
    {K : Act → World → Prop} {Q : Exit → Act → World → Prop} (hn : ∀ a' w', Post B φ h w env' h' a' w' → K a' w') : wpOp P ops Q i K a w := by
  unfold wpOp
  simp only [hi]
  unfold astep at hs
  split at hs
  · rename_i hw
    obtain ⟨⟨v, h1⟩, ho, hbb⟩ := map_some hs
    simp only at hbb
    cases hbb
    simp only [wanted_sound hw he, if_true]
    refine .inl (op_sound hC r ho he.1 fun v' w' hres => ?_)
    obtain ⟨φ', hv, r', s'⟩ := hres
    exact hn _ _ ⟨φ', put_sound (he.mono s'.okm fun id hid => s'.ext id (AH.ok_lt hid)) hv _, r', s'⟩
  · rename_i hw
    cases hs
    simp only [wanted_sound hw he, Bool.false_eq_true, if_false]
    exact hn _ _ ⟨φ, put_sound he (VR.undef _ _) _, r, Step.refl _ _ _⟩
  · cases hs

theorem ops_sound {callF : CallF} (hC : CallOK P B callF) {ops : Array Oper} {Q : Exit → Act → World → Prop} : ∀ (l : List Oper) (k : Nat) (env env' : List AV) (h h' : AH) (φ : Nat → Loc) (a : Act) (w : World),
    ops.toList.drop k = l → aops P callF ops l env h = some (env', h') → Rel B φ h w → ActR h.ok φ env a → (∀ a' w', Post B φ h w env' h' a' w' → Q .normal a' w') → wpOps P ops Q (List.range' k l.length) a w
  | [], k, env, env', h, h', φ, a, w, hl, hs, r, he, hn => by
    simp only [aops] at hs
    cases hs
    exact hn _ _ ⟨φ, he, r, Step.refl _ _ _⟩
  | o :: l, k, env, env', h, h', φ, a, w, hl, hs, r, he, hn => by
    simp only [aops] at hs
    split at hs
    rotate_left
    · cases hs
    rename_i r1 h1
    obtain ⟨env1, hh1⟩ := r1
    have hk : ops[k]? = some o := by
      have : (ops.toList.drop k)[0]? = some o := by rw [hl]; rfl
      rw [List.getElem?_drop] at this
      simpa using this
    have hl' : ops.toList.drop (k + 1) = l := by
      rw [← List.drop_drop, hl]; rfl
    rw [List.length_cons, List.range'_succ, wpOps_cons]
    refine step_sound hC hk h1 r he fun a' w' hp => ?_
    obtain ⟨φ', he', r', s'⟩ := hp
    exact ops_sound hC l (k + 1) env1 env' hh1 h' φ' a' w' hl' hs r' he' fun a'' w'' hp' => hn _ _ (hp'.trans s')

def toE : AX → Exit
  | .normal => .normal
  | .exit id => .exit id
  | .ret => .ret

def DrawnOK (P : Program) (B : Nat) (drawn : Array Oper → List AV → AH → Option (List AV × AH)) : Prop :=
  ∀ (id : Nat) (ops : Array Oper) (env env' : List AV) (h h' : AH), drawn ops env h = some (env', h') → ∀ (φ : Nat → Loc) (a : Act) (w : World) (Q : Exit → Act → World → Prop), Rel B φ h w → ActR h.ok φ env a →
    (∀ a' w', Post B φ h w env' h' a' w' → Q .normal a' w') → (Code.region id ops true).wp P Q a w

def CodeOK (P : Program) (B : Nat) (f : List AV → AH → ARes) (c : Code) : Prop :=
  ∀ (env env' : List AV) (h h' : AH) (x : AX), f env h = some (x, env', h') → ∀ (φ : Nat → Loc) (a : Act) (w : World) (Q : Exit → Act → World → Prop), Rel B φ h w → ActR h.ok φ env a →
    (∀ a' w', Post B φ h w env' h' a' w' → Q (toE x) a' w') → c.wp P Q a w

theorem loop_sound {f : List AV → AH → ARes} {c : Code} (hc : CodeOK P B f c) : ∀ (n : Nat) (env env' : List AV) (h h' : AH) (x : AX), aloop f n env h = some (x, env', h') → ∀ (φ : Nat → Loc) (a : Act) (w : World) (Q : Exit → Act → World → Prop), Rel B φ h w → ActR h.ok φ env a →
    (∀ a' w', Post B φ h w env' h' a' w' → Q (toE x) a' w') → Code.rounds P c Q n a w
  | 0, env, env', h, h', x, hs, _, _, _, _, _, _, _ => by simp [aloop] at hs
  | n + 1, env, env', h, h', x, hs, φ, a, w, Q, r, he, hn => by
    simp only [aloop] at hs
    rw [rounds_succ]
    split at hs
    · rename_i env1 h1 hf
      refine hc env env1 h h1 .normal hf φ a w _ r he fun a' w' hp => ?_
      obtain ⟨φ', he', r', s'⟩ := hp
      exact loop_sound hc n env1 env' h1 h' x hs φ' a' w' Q r' he' fun a'' w'' hp' => hn _ _ (hp'.trans s')
    · rename_i hne
      refine hc env env' h h' x hs φ a w _ r he fun a' w' hp => ?_
      cases x with
      | normal => exact absurd hs (hne _ _)
      | exit id => exact hn _ _ hp
      | ret => exact hn _ _ hp

theorem code_sound {callF : CallF} (hC : CallOK P B callF) {drawn : Array Oper → List AV → AH → Option (List AV × AH)} (hD : DrawnOK P B drawn) (fuel : Nat) : ∀ c : Code, CodeOK P B (acode P callF drawn fuel c) c := by
  intro c
  induction c with
  | skip => intro env env' h h' x hs φ a w Q r he hn; simp only [acode] at hs; cases hs; exact Go.wp_skip (hn _ _ ⟨φ, he, r, Step.refl _ _ _⟩)
  | region id ops draw =>
    intro env env' h h' x hs φ a w Q r he hn
    cases draw with
    | false =>
      simp only [acode] at hs
      obtain ⟨⟨e1, h1⟩, ho, hbb⟩ := map_some hs
      simp only at hbb
      cases hbb
      refine wp_region ?_
      have := ops_sound hC (Q := Q) ops.toList 0 env env' h h' φ a w rfl ho r he hn
      rwa [Array.length_toList, ← List.range_eq_range'] at this
    | true =>
      simp only [acode] at hs
      obtain ⟨⟨e1, h1⟩, ho, hbb⟩ := map_some hs
      simp only at hbb
      cases hbb
      exact hD id ops env env' h h' ho φ a w Q r he hn
  | seq x y ihx ihy =>
    intro env env' h h' e hs φ a w Q r he hn
    simp only [acode] at hs
    refine wp_seq ?_
    split at hs
    · rename_i env1 h1 hf
      refine ihx env env1 h h1 .normal hf φ a w _ r he fun a' w' hp => ?_
      obtain ⟨φ', he', r', s'⟩ := hp
      exact ihy env1 env' h1 h' e hs φ' a' w' Q r' he' fun a'' w'' hp' => hn _ _ (hp'.trans s')
    · rename_i hne
      refine ihx env env' h h' e hs φ a w _ r he fun a' w' hp => ?_
      cases e with
      | normal => exact absurd hs (hne _ _)
      | exit id => exact hn _ _ hp
      | ret => exact hn _ _ hp
  | cond c x y ihx ihy =>
    intro env env' h h' e hs φ a w Q r he hn
    simp only [acode] at hs
    have hv := eval_sound he.1 c
    split at hs
    · rename_i hc
      rw [hc] at hv
      generalize hu : a.eval c = u at hv
      cases hv
      exact wp_cond_true hu (ihx env env' h h' e hs φ a w Q r he hn)
    · rename_i hc
      rw [hc] at hv
      generalize hu : a.eval c = u at hv
      cases hv
      exact wp_cond_false hu (ihy env env' h h' e hs φ a w Q r he hn)
    · cases hs
  | block id c ih =>
    intro env env' h h' e hs φ a w Q r he hn
    simp only [acode] at hs
    refine wp_block ?_
    split at hs
    · rename_i i env1 h1 hf
      cases hs
      refine ih env env' h h' (.exit i) hf φ a w _ r he fun a' w' hp => ?_
      show (if i = id then Q .normal a' w' else Q (.exit i) a' w')
      split
      · rename_i hi; rw [if_pos hi] at hn; exact hn _ _ hp
      · rename_i hi; rw [if_neg hi] at hn; exact hn _ _ hp
    · rename_i hne
      refine ih env env' h h' e hs φ a w _ r he fun a' w' hp => ?_
      cases e with
      | normal => exact hn _ _ hp
      | exit i => exact absurd hs (hne _ _ _)
      | ret => exact hn _ _ hp
  | loop c ih =>
    intro env env' h h' e hs φ a w Q r he hn
    simp only [acode] at hs
    exact wp_loop_rounds fuel (loop_sound ih fuel env env' h h' e hs φ a w Q r he hn)
  | exit id => intro env env' h h' x hs φ a w Q r he hn; simp only [acode] at hs; cases hs; exact wp_exit (hn _ _ ⟨φ, he, r, Step.refl _ _ _⟩)
  | scope c ih =>
    intro env env' h h' e hs φ a w Q r he hn
    simp only [acode] at hs
    refine wp_scope_straight ?_
    refine ih env env' h h' e hs φ a w _ r he fun a' w' hp => ?_
    cases e <;> exact hn _ _ hp
  | label l => intro env env' h h' x hs φ a w Q r he hn; simp only [acode] at hs; cases hs; exact wp_label (hn _ _ ⟨φ, he, r, Step.refl _ _ _⟩)
  | ret => intro env env' h h' x hs φ a w Q r he hn; simp only [acode] at hs; cases hs; exact wp_ret (hn _ _ ⟨φ, he, r, Step.refl _ _ _⟩)
  | goto l => intro env env' h h' x hs; simp [acode] at hs
  | rangeFunc f ps x y _ _ => intro env env' h h' e hs; simp [acode] at hs
  | refuse why => intro env env' h h' x hs; simp [acode] at hs

/-! ### Calls -/
def resOf (tmps : Array Value) : ResultVar → Sem Value
  | .tmp t => pure (tmps.getD t undef)
  | .cell a t => do loadVar t (← asAddr (tmps.getD a undef))

theorem result_sound (r : Rel B φ h w) {env : List AV} {tmps : Array Value} (he : VRs h.ok φ env tmps.toList) {rv : ResultVar} {x : AV} (hx : aresult P env h rv = some x) :
    ∃ v, (resOf tmps rv).run P w = .ok v w ∧ VR h.ok φ x v := by
  have hev := fun t => eval_sound (a := ⟨tmps, []⟩) he (.tmp t)
  cases rv with
  | tmp t => simp only [aresult] at hx; cases hx; exact ⟨_, rfl, hev t⟩
  | cell p t =>
    simp only [aresult] at hx
    have hp : VR h.ok φ (env.getD p .undef) (tmps.getD p undef) := hev p
    obtain ⟨u, hu, hr⟩ := run_loadVar' r hx hp
    refine ⟨u, ?_, hr⟩
    show (asAddr (tmps.getD p undef) >>= fun a => loadVar t a).run P w = _
    generalize tmps.getD p undef = q at hp hu ⊢
    generalize env.getD p .undef = y at hp hx
    cases hp with
    | ptr id off hid =>
      simp only [Instr.loadAt, Instr.sureAddr, Sem.run_bind, Sem.run_pure, Result.andThen_ok] at hu
      simp only [asAddr, Sem.run_bind, Sem.run_pure, Result.andThen_ok, hu]
    | val q =>
      cases q with
      | pointer a =>
        cases a with
        | none => simp [aload] at hx
        | some a =>
          simp only [Instr.loadAt, Instr.sureAddr, Sem.run_bind, Sem.run_pure, Result.andThen_ok] at hu
          simp only [asAddr, Sem.run_bind, Sem.run_pure, Result.andThen_ok, hu]
      | _ => simp [aload] at hx
    | _ => simp [aload] at hx

theorem results_list (r : Rel B φ h w) {env : List AV} {tmps : Array Value} (he : VRs h.ok φ env tmps.toList) : ∀ (rs : List ResultVar) (xs : List AV), aresults P env h rs = some xs →
    ∃ vs : List Value, (rs.mapM (resOf tmps)).run P w = .ok vs w ∧ VRs h.ok φ xs vs
  | [], xs, hx => by simp only [aresults] at hx; cases hx; exact ⟨[], rfl, VRs.nil _ _⟩
  | rv :: rs, xs, hx => by
    simp only [aresults] at hx
    split at hx
    · rename_i y ys hy hys
      cases hx
      obtain ⟨v, hv, hr⟩ := result_sound r he hy
      obtain ⟨vs, hvs, hrs⟩ := results_list r he rs ys hys
      refine ⟨v :: vs, ?_, VRs.cons hr hrs⟩
      simp only [List.mapM_cons, Sem.run_bind]
      rw [hv]
      simp only [Result.andThen_ok, hvs, Sem.run_pure]
    · cases hx

theorem packed_sound {N : Nat → Prop} {xs : List AV} {vs : List Value} (h : VRs N φ xs vs) : VR N φ (packed xs) (if h : vs.toArray.size = 1 then vs.toArray[0] else .tuple vs.toArray) := by
  match xs, vs, h with
  | [x], [v], h => exact h.head
  | [], [], h => exact VR.tups h
  | x :: y :: xs, u :: v :: vs, h =>
    rw [dif_neg (by simp)]
    exact VR.tups h
  | [], _ :: _, h => exact absurd h.1 (by simp)
  | _ :: _, [], h => exact absurd h.1 (by simp)
  | [_], _ :: _ :: _, h => exact absurd h.1 (by simp)
  | _ :: _ :: _, [_], h => exact absurd h.1 (by simp)

theorem results_sound (r : Rel B φ h w) {fn : Func} {env : List AV} {tmps : Array Value} (he : VRs h.ok φ env tmps.toList) {xs : List AV} (hx : aresults P env h fn.results.toList = some xs) :
    ∃ v, (results fn tmps).run P w = .ok v w ∧ VR h.ok φ (packed xs) v := by
  obtain ⟨vs, hvs, hr⟩ := results_list r he _ xs hx
  refine ⟨_, ?_, packed_sound hr⟩
  have e0 : results fn tmps = (do let vs ← fn.results.mapM (resOf tmps); pure (if h : vs.size = 1 then vs[0] else .tuple vs)) := by
    unfold results
    congr 1
  rw [e0, Array.mapM_eq_mapM_toList]
  simp only [Sem.run_bind, Sem.run_map, hvs, Result.andThen_ok, Sem.run_pure]

def HooksOK (P : Program) (B : Nat) (Γ : Hooks) : Prop := ∀ f g, Γ f = some g → CallOK P B (fun f' args h => if f' = f then g args h else none)

theorem call_sound {Γ : Hooks} {D : Drawn} (hH : HooksOK P B Γ) (hD : ∀ callF, CallOK P B callF → DrawnOK P B (D callF)) (hN : P.funcs.all (fun fn => !(fn.name == "runtime.NumGoroutine")) = true) : ∀ n, CallOK P B (acall P Γ D n) := by
  have hook : ∀ f g args h v h', Γ f = some g → g args h = some (v, h') → ∀ (φ : Nat → Loc) (w : World) (args' : List Value), Rel B φ h w → VRs h.ok φ args args' →
      InvR P (fun v' w' => Res B φ h w v h' v' w') ((callFunc f args'.toArray).run P w) := fun f g args h v h' hg hr φ w args' r ha =>
    hH f g hg f args h v h' (by simp [hr]) φ w args' r ha
  intro n
  induction n with
  | zero =>
    intro f args h v h' hs φ w args' r ha
    simp only [acall] at hs
    split at hs
    · rename_i g hg; exact hook f g args h v h' hg hs φ w args' r ha
    · cases hs
  | succ n ih =>
    intro f args h v h' hs φ w args' r ha
    simp only [acall] at hs
    split at hs
    · rename_i g hg; exact hook f g args h v h' hg hs φ w args' r ha
    split at hs
    rotate_left
    · cases hs
    rename_i fn hf
    split at hs
    rotate_left
    · cases hs
    rename_i c hb
    have hname : (fn.name == "runtime.NumGoroutine") = false := by
      have hm : fn ∈ P.funcs := Array.mem_of_getElem? hf
      have := Array.all_eq_true_iff_forall_mem.1 hN fn hm
      simpa using this
    have hcf : (callFunc f args'.toArray).run P w = .ok (.enter f args'.toArray) w := by
      unfold callFunc
      simp only [Sem.run_bind, run_program, Result.andThen_ok, hf, hname, Bool.false_eq_true, if_false, hb, Option.isNone_some, Sem.run_pure]
    rw [hcf]
    have hact : ActR h.ok φ (args ++ List.replicate (fn.ntmps - args.length) .undef) { tmps := args'.toArray ++ Array.replicate (fn.ntmps - args'.toArray.size) undef, defers := [] } := by
      refine ⟨?_, rfl⟩
      have hl := ha.1
      have e : (args'.toArray ++ Array.replicate (fn.ntmps - args'.toArray.size) undef).toList = args' ++ List.replicate (fn.ntmps - args.length) undef := by simp [hl]
      show VRs _ _ _ (args'.toArray ++ Array.replicate (fn.ntmps - args'.toArray.size) undef).toList
      rw [e]
      refine ha.append ⟨by simp, fun i x u hx hu => ?_⟩
      rw [List.getElem?_replicate] at hx hu
      split at hx
      · rename_i hi; rw [if_pos hi] at hu; cases hx; cases hu; exact VR.undef _ _
      · cases hx
    have fin : ∀ (x : AX) (env' : List AV) (h1 : AH), toE x = .normal ∨ toE x = .ret → acode P (acall P Γ D n) (D (acall P Γ D n)) n c (args ++ List.replicate (fn.ntmps - args.length) .undef) h = some (x, env', h1) →
        ((aresults P env' h1 fn.results.toList).map fun vs => (packed vs, h1)) = some (v, h') → Calls P f args'.toArray w (fun e w' => ∃ v', e = .returned v' ∧ Res B φ h w v h' v' w') := by
      intro x env' h1 hx hco hres
      obtain ⟨xs, hxs, hbb⟩ := map_some hres
      cases hbb
      refine calls_of_wp hf hb ?_
      refine code_sound ih (hD _ ih) n c _ _ _ _ x hco φ _ w _ r hact fun a' w' hp => ?_
      obtain ⟨φ', he', r', s'⟩ := hp
      obtain ⟨u, hu, hr⟩ := results_sound (P := P) r' he'.1 hxs
      have hpost : a'.defers = [] ∧ ∃ v0, (results fn a'.tmps).run P w' = .ok v0 w' ∧ ∃ v', Ending.returned v0 = .returned v' ∧ Res B φ h w (packed xs) _ v' w' := ⟨he'.2, u, hu, u, rfl, φ', hr, r', s'⟩
      rcases hx with hx | hx <;> rw [hx] <;> exact hpost
    show Calls P f args'.toArray w _
    split at hs
    · rename_i env' h1 hco; exact fin .normal env' h1 (.inl rfl) hco hs
    · rename_i env' h1 hco; exact fin .ret env' h1 (.inr rfl) hco hs
    · cases hs


end
/-! M14 -/
section
set_option linter.unusedSimpArgs false
set_option linter.unusedVariables false
open Go Go.RowKit

variable {P : Program} {B : Nat} {φ : Nat → Loc} {h : AH} {w : World}

/-- All blocks that a value names meet p. -/
inductive Ids (p : Nat → Prop) : AV → Prop
  | int (k : IntKind) (m : Int) : Ids p (.int k m)
  | bool (b : Bool) : Ids p (.bool b)
  | str (l : List UInt8) : Ids p (.str l)
  | val (v : Value) : Ids p (.val v)
  | ptr (id off : Nat) (h : p id) : Ids p (.ptr id off)
  | sl (id off len esz : Nat) (h : p id) : Ids p (.sl id off len esz)
  | map (id : Nat) (h : p id) : Ids p (.map id)
  | iface (t : TypeId) (x : AV) (h : Ids p x) : Ids p (.iface t x)
  | agg (xs : List AV) (h : ∀ (i : Nat) (x : AV), xs[i]? = some x → Ids p x) : Ids p (.agg xs)
  | tup (xs : List AV) (h : ∀ (i : Nat) (x : AV), xs[i]? = some x → Ids p x) : Ids p (.tup xs)
  | func (fn : Fn) (xs ys : List AV) (h : ∀ (i : Nat) (x : AV), xs[i]? = some x → Ids p x) (h' : ∀ (i : Nat) (x : AV), ys[i]? = some x → Ids p x) : Ids p (.func fn xs ys)
  | any : Ids p .any

theorem part_there {xs : List AV} {vs : Array Value} (hl : xs.length = vs.size) {i : Nat} {x : AV} (hx : xs[i]? = some x) : ∃ v, vs[i]? = some v := by
  have hi : i < vs.size := by
    rcases Nat.lt_or_ge i xs.length with h' | h'
    · omega
    · rw [List.getElem?_eq_none h'] at hx; cases hx
  exact ⟨_, Array.getElem?_eq_getElem hi⟩

theorem Ids.of_VR {N : Nat → Prop} {x : AV} {v : Value} (h : VR N φ x v) : Ids N x := by
  induction h with
  | int k m => exact .int k m
  | bool b => exact .bool b
  | str l => exact .str l
  | val v => exact .val v
  | ptr id off h => exact .ptr id off h
  | sl id off len esz a cap h hl ha => exact .sl id off len esz h
  | map id h => exact .map id h
  | iface t x v _ ih => exact .iface t x ih
  | agg xs vs hl _ ih => exact .agg xs fun i x hx => (part_there hl hx).elim fun v hv => ih i x v hx hv
  | tup xs vs hl _ ih => exact .tup xs fun i x hx => (part_there hl hx).elim fun v hv => ih i x v hx hv
  | func fn xs ys us vs hl hl' _ _ ih ih' => exact .func fn xs ys (fun i x hx => (part_there hl hx).elim fun v hv => ih i x v hx hv) fun i x hx => (part_there hl' hx).elim fun v hv => ih' i x v hx hv
  | any v => exact .any

/-- A value's partner goes by the blocks that it names alone. -/
theorem VR.shift {N N' p : Nat → Prop} {φ φ' : Nat → Loc} (hN : ∀ id, p id → N' id) (he : ∀ id, p id → φ' id = φ id) {x : AV} {v : Value} (h : VR N φ x v) (hi : Ids p x) : VR N' φ' x v := by
  induction h with
  | int k m => exact .int k m
  | bool b => exact .bool b
  | str l => exact .str l
  | val v => exact .val v
  | ptr id off h => cases hi with | ptr _ _ hp => rw [← he id hp]; exact .ptr id off (hN id hp)
  | sl id off len esz a cap h hl ha => cases hi with | sl _ _ _ _ hp => exact .sl id off len esz a cap (hN id hp) hl (by rw [he id hp]; exact ha)
  | map id h => cases hi with | map _ hp => rw [← he id hp]; exact .map id (hN id hp)
  | iface t x v _ ih => cases hi with | iface _ _ hp => exact .iface t x v (ih hp)
  | agg xs vs hl _ ih => cases hi with | agg _ hp => exact .agg xs vs hl fun i x v hx hv => ih i x v hx hv (hp i x hx)
  | tup xs vs hl _ ih => cases hi with | tup _ hp => exact .tup xs vs hl fun i x v hx hv => ih i x v hx hv (hp i x hx)
  | func fn xs ys us vs hl hl' _ _ ih ih' => cases hi with | func _ _ _ hp hp' => exact .func fn xs ys us vs hl hl' (fun i x v hx hv => ih i x v hx hv (hp i x hx)) (fun i x v hx hv => ih' i x v hx hv (hp' i x hx))
  | any v => exact .any v

def NoId : Nat → Prop := fun _ => False
theorem NoId.ids {x : AV} {p : Nat → Prop} (h : Ids NoId x) : Ids p x := by
  induction h with
  | int k m => exact .int k m
  | bool b => exact .bool b
  | str l => exact .str l
  | val v => exact .val v
  | ptr id off h => exact h.elim
  | sl id off len esz h => exact h.elim
  | map id h => exact h.elim
  | iface t x _ ih => exact .iface t x ih
  | agg xs _ ih => exact .agg xs ih
  | tup xs _ ih => exact .tup xs ih
  | func fn xs ys _ _ ih ih' => exact .func fn xs ys ih ih'
  | any => exact .any
theorem VR.free {N N' : Nat → Prop} {φ φ' : Nat → Loc} {x : AV} {v : Value} (h : VR N φ x v) (hi : Ids NoId x) : VR N' φ' x v := h.shift (fun _ hf => hf.elim) (fun _ hf => hf.elim) hi

/-- Is a value free of blocks? -/
def free1 : AV → Bool
  | .int _ _ | .bool _ | .str _ | .val _ | .any => true
  | .func _ [] [] => true
  | _ => false
def free2 : AV → Bool
  | .agg xs => xs.all free1
  | .iface _ x => free1 x
  | x => free1 x
def freeAV : AV → Bool
  | .tup xs => xs.all free2
  | x => free2 x

theorem free1_ids {x : AV} (h : free1 x = true) : Ids NoId x := by
  unfold free1 at h
  split at h <;> first | exact .int _ _ | exact .bool _ | exact .str _ | exact .val _ | exact .any | exact .func _ _ _ (fun i x hx => by simp at hx) (fun i x hx => by simp at hx) | cases h
theorem list_ids {p : Nat → Prop} {xs : List AV} (h : ∀ x ∈ xs, Ids p x) : ∀ (i : Nat) (x : AV), xs[i]? = some x → Ids p x := fun i x hx => h x (List.mem_of_getElem? hx)
theorem free2_ids {x : AV} (h : free2 x = true) : Ids NoId x := by
  unfold free2 at h
  split at h
  · exact .agg _ (list_ids fun x hx => free1_ids (List.all_eq_true.1 h x hx))
  · exact .iface _ _ (free1_ids h)
  · exact free1_ids h
theorem free_ids {x : AV} (h : freeAV x = true) : Ids NoId x := by
  unfold freeAV at h
  split at h
  · exact .tup _ (list_ids fun x hx => free2_ids (List.all_eq_true.1 h x hx))
  · exact free2_ids h

/-- A part of a heap: what it shows is shown by the whole one. -/
def SubH (s h : AH) : Prop := ∀ id o, s.get id = some o → h.get id = some o

theorem Rel.sub {s : AH} (r : Rel B φ h w) (hs : SubH s h) (hi : ∀ id o, s.get id = some o → ∀ (p : Nat → Prop), ObjR h.ok φ (φ id) o w.heap[(φ id).b]? → ObjR s.ok φ (φ id) o w.heap[(φ id).b]?) : Rel B φ s w :=
  ⟨fun id o hg => hi id o hg (fun _ => True) (r.obj id o (hs id o hg)), fun id o hg ho => r.base id o (hs id o hg) ho, fun i j o p hg hj ho hp he => r.sep i j o p (hs i o hg) (hs j p hj) ho hp he, r.bs⟩

theorem Rel.empty (hb : B ≤ w.heap.size) (φ : Nat → Loc) (n : Nat) : Rel B φ ⟨n, []⟩ w := by
  have : ∀ id o, (⟨n, []⟩ : AH).get id = some o → False := fun id o hg => by
    unfold AH.get at hg
    split at hg
    · simp at hg
    · cases hg
  exact ⟨fun id o hg => (this id o hg).elim, fun id o hg => (this id o hg).elim, fun i j o p hg => (this i o hg).elim, hb⟩

/-- A call that sees no block of ours, and answers none, leaves what we know as it was. -/
theorem Res.aside {n : Nat} {v : AV} {h'' : AH} {v' : Value} {w' : World} (r : Rel B φ h w) (hr : Res B φ ⟨n, []⟩ w v h'' v' w') (hv : Ids NoId v) : Res B φ h w v h v' w' := by
  obtain ⟨φ', hvr, r', s'⟩ := hr
  have none : ∀ id o, (⟨n, []⟩ : AH).get id = some o → False := fun id o hg => by
    unfold AH.get at hg
    split at hg
    · simp at hg
    · cases hg
  have keep : ∀ k, k < w.heap.size → w'.heap[k]? = w.heap[k]? := fun k hk => s'.frame k hk fun id o hg => (none id o hg).elim
  refine ⟨φ, hvr.free hv, ⟨fun id o hg => ?_, r.base, r.sep, Nat.le_trans r.bs s'.size⟩, ⟨s'.os, s'.tape, s'.output, s'.size, Nat.le_refl _, fun _ hk => hk, fun _ _ => rfl, fun k hk _ => keep k hk, fun id o hg ho => .inr ⟨id, o, hg, ho, rfl⟩, s'.dr, fun id o hg ho => .inr ⟨id, o, hg, ho, rfl⟩⟩⟩
  cases hl : o.live with
  | false => cases o <;> first | trivial | cases hl
  | true => rw [keep _ (r.lt hg hl)]; exact r.obj id o hg

/-! ### Hooks -/
theorem InvR.mono {K K' : Value → World → Prop} {r : Result Next} (h : InvR P K r) (hk : ∀ v w, K v w → K' v w) : InvR P K' r := by
  unfold InvR at *
  split
  · simp only at h; exact hk _ _ h
  · simp only at h
    refine Calls.mono h ?_
    rintro e w' ⟨v, rfl, hv⟩
    exact ⟨v, rfl, hk _ _ hv⟩
  · rename_i h1 h2
    split at h
    · exact absurd rfl (h1 _ _)
    · exact absurd rfl (h2 _ _ _)
    · exact h

/-- One more hook. -/
def Hooks.add (Γ : Hooks) (f : FuncId) (g : List AV → AH → Option (AV × AH)) : Hooks := fun k => if k = f then some g else Γ k

def HookOK (P : Program) (B : Nat) (f : FuncId) (g : List AV → AH → Option (AV × AH)) : Prop :=
  ∀ (args : List AV) (h : AH) (v : AV) (h' : AH), g args h = some (v, h') → ∀ (φ : Nat → Loc) (w : World) (args' : List Value), Rel B φ h w → VRs h.ok φ args args' →
    InvR P (fun v' w' => Res B φ h w v h' v' w') ((callFunc f args'.toArray).run P w)

theorem HooksOK.none : HooksOK P B (fun _ => none) := fun f g hg => by cases hg

theorem HooksOK.add {Γ : Hooks} {f : FuncId} {g : List AV → AH → Option (AV × AH)} (hΓ : HooksOK P B Γ) (hg : HookOK P B f g) : HooksOK P B (Γ.add f g) := by
  intro k g' hk k' args h v h' hr φ w args' r ha
  simp only [Hooks.add] at hk
  simp only at hr
  split at hr
  · rename_i e
    subst e
    split at hk
    · rename_i e; subst e; cases hk; exact hg args h v h' hr φ w args' r ha
    · exact hΓ k' g' hk k' args h v h' (by simp [hr]) φ w args' r ha
  · cases hr

theorem HooksOK.hook {Γ : Hooks} {f : FuncId} {g : List AV → AH → Option (AV × AH)} (hΓ : HooksOK P B Γ) (hg : Γ f = some g) : HookOK P B f g := fun args h v h' hr φ w args' r ha =>
  hΓ f g hg f args h v h' (by simp [hr]) φ w args' r ha

/-- A function whose answer names no block, gone through apart from all memory. -/
theorem HookOK.apart {Γ : Hooks} {D : Drawn} (hΓ : HooksOK P B Γ) (hD : ∀ callF, CallOK P B callF → DrawnOK P B (D callF)) (hN : P.funcs.all (fun fn => !(fn.name == "runtime.NumGoroutine")) = true) (f : FuncId) (g : List AV → Option AV)
    (hg : ∀ args v, g args = some v → freeAV v = true ∧ args.all freeAV = true ∧ ∃ n h'', acall P Γ D n f args ⟨0, []⟩ = some (v, h'')) : HookOK P B f (fun args h => (g args).map fun v => (v, h)) := by
  intro args h v h' hr φ w args' r ha
  obtain ⟨v0, hv0, hbb⟩ := map_some hr
  cases hbb
  obtain ⟨hfree, hargs, n, h'', hrun⟩ := hg args v hv0
  have ha' : VRs (⟨0, []⟩ : AH).ok φ args args' := ⟨ha.1, fun i x u hx hu => (ha.2 i x u hx hu).free (free_ids (List.all_eq_true.1 hargs x (List.mem_of_getElem? hx)))⟩
  exact (call_sound hΓ hD hN n f args ⟨0, []⟩ v h'' hrun φ w args' (Rel.empty r.bs φ 0) ha').mono fun v' w' hres => Res.aside r hres (free_ids hfree)

theorem acall_hook {Γ : Hooks} {D : Drawn} {f : FuncId} {g : List AV → AH → Option (AV × AH)} (hg : Γ f = some g) (n : Nat) (args : List AV) (h : AH) : acall P Γ D n f args h = g args h := by
  cases n <;> simp [acall, hg]

theorem acall_succ {Γ : Hooks} {D : Drawn} {n : Nat} {f : FuncId} {fn : Func} {c : Code} (hg : Γ f = none) (hf : P.funcs[f]? = some fn) (hb : fn.body = some c) (args : List AV) (h : AH) {r : AV × AH}
    (hr : (match acode P (acall P Γ D n) (D (acall P Γ D n)) n c (args ++ List.replicate (fn.ntmps - args.length) .undef) h with
          | some (.normal, env', h') => (aresults P env' h' fn.results.toList).map fun vs => (packed vs, h')
          | some (.ret, env', h') => (aresults P env' h' fn.results.toList).map fun vs => (packed vs, h')
          | _ => none) = some r) :
    acall P Γ D (n + 1) f args h = some r := by
  rw [acall]
  simp only [hg, hf, hb]
  exact hr

/-- A law of plain data, out of its hook. -/
theorem law_of_hook {f : FuncId} {g : List AV → AH → Option (AV × AH)} (hg : HookOK P w.heap.size f g) {args : List AV} {args' : List Value} {h' : AH} (ha : VRs (⟨0, []⟩ : AH).ok (fun _ => ⟨0, 0, 0⟩) args args') (hr : g args ⟨0, []⟩ = some (.bool true, h')) {fn : Func} {c : Code}
    (hf : P.funcs[f]? = some fn) (hb : fn.body = some c) (hn : (fn.name == "runtime.NumGoroutine") = false) :
    Calls P f args'.toArray w fun e w' => e = .returned (.bool true) ∧ Below w.heap.size w w' := by
  have := hg args ⟨0, []⟩ _ _ hr _ w args' (Rel.empty (Nat.le_refl _) _ 0) ha
  have hcf : (callFunc f args'.toArray).run P w = .ok (.enter f args'.toArray) w := by
    unfold callFunc
    simp only [Sem.run_bind, run_program, Result.andThen_ok, hf, hn, Bool.false_eq_true, if_false, hb, Option.isNone_some, Sem.run_pure]
  rw [hcf] at this
  refine Calls.mono this ?_
  rintro e w' ⟨v, rfl, φ', hv, r', s'⟩
  cases hv
  exact ⟨rfl, s'.os, s'.tape, s'.output, s'.size, fun k hk => s'.frame k hk fun id o hg => by
    unfold AH.get at hg
    split at hg
    · simp at hg
    · cases hg⟩


end
/-! M15 -/
section
set_option linter.unusedSimpArgs false
set_option linter.unusedVariables false
open Go Go.RowKit

variable {P : Program} {B : Nat} {φ : Nat → Loc} {h : AH} {w : World}

/-- A function that leaves all memory as it is: one that looks at none of it, or one that does. -/
inductive PK where
  | pure (k : List AV → Option AV)
  | read (k : List AV → AH → Option AV)

abbrev PTab := FuncId → Option PK

def PK.run (p : PK) (args : List AV) (h : AH) : Option (AV × AH) :=
  match p with
  | .pure k => (k args).map fun v => (v, h)
  | .read k => (k args h).map fun v => (v, h)

def withTab (T : PTab) (callF : CallF) : CallF := fun f args h =>
  match T f with
  | some p => p.run args h
  | none => callF f args h

def PTabOK (P : Program) (B : Nat) (T : PTab) : Prop := ∀ f p, T f = some p → HookOK P B f p.run

theorem withTab_ok {T : PTab} (hT : PTabOK P B T) {callF : CallF} (hC : CallOK P B callF) : CallOK P B (withTab T callF) := by
  intro f args h v h' hr
  unfold withTab at hr
  split at hr
  · rename_i p hp; exact hT f p hp args h v h' hr
  · exact hC f args h v h' hr

inductive Kind where
  | free | read | write
  deriving DecidableEq

def kindCall (P : Program) (T : PTab) (c : Call) : Kind :=
  match c.callee with
  | .builtin .len => match (c.argTypes[0]?).map P.underlying with
    | some (some .string) => .free
    | some (some (.slice _)) => .free
    | some (some (.array _ _)) => .free
    | _ => .read
  | .builtin .max => .free
  | .builtin .min => .free
  | .builtin .unsafeSliceData => .free
  | .value (.func f) => match T f with
    | some (.pure _) => .free
    | some (.read _) => .read
    | none => .write
  | _ => .write

def kindOf (P : Program) (T : PTab) (o : Op) : Kind :=
  match o with
  | .move _ | .assign _ | .pick _ _ _ | .build _ _ | .nilCheck _ | .binOp _ _ _ _ _ | .unOp _ _ _ | .makeInterface _ _ | .makeFunc _ _ _
  | .fieldAddr _ _ _ | .field _ _ _ | .indexAddr _ _ _ | .index _ _ _ | .typeAssert _ _ _ _ | .extract _ _ => .free
  | .convert s d _ => match P.underlying d with
    | some (.int _) => .free
    | some .string => .read
    | _ => .write
  | .slice t _ _ _ _ => match P.underlying t with
    | some .string => .free
    | some (.slice _) => .free
    | _ => .read
  | .load _ _ => .read
  | .lookup _ _ _ _ => .read
  | .call c => kindCall P T c
  | _ => .write

theorem map_pair {α : Type} {x : Option α} {h h' : AH} {v : α} (e : (x.map fun v => (v, h)) = some (v, h')) : h' = h ∧ x = some v := by
  cases x with
  | none => cases e
  | some y => cases e; exact ⟨rfl, rfl⟩

theorem free_slice {t : TypeId} (hf : P.underlying t = some .string ∨ ∃ e, P.underlying t = some (.slice e)) (x : AV) (lo hi mx : Option AV) (h g : AH) : aslice P t x lo hi mx h = aslice P t x lo hi mx g := by
  unfold aslice
  split
  · rfl
  · rcases hf with hf | ⟨e, hf⟩ <;> simp only [hf] <;> cases x <;> first
      | rfl
      | (rename_i v; cases v <;> first
          | rfl
          | (rename_i a b c; cases a <;> first
              | rfl
              | (cases b <;> first | rfl | (cases c <;> rfl))))

theorem free_len {t : TypeId} (hf : P.underlying t = some .string ∨ (∃ e, P.underlying t = some (.slice e)) ∨ ∃ n e, P.underlying t = some (.array n e)) (x : AV) (h g : AH) : alenOf P t x h = alenOf P t x g := by
  unfold alenOf
  rcases hf with hf | ⟨e, hf⟩ | ⟨n, e, hf⟩ <;> simp only [hf] <;> cases x <;> first
    | rfl
    | (rename_i v; cases v <;> first
        | rfl
        | (rename_i a b c; cases a <;> rfl))

theorem kind_free {T : PTab} {callF : CallF} {env : List AV} {o : Op} (hk : kindOf P T o = .free) {v : AV} {h h' : AH} (ho : aop P (withTab T callF) env o h = some (v, h')) : h' = h ∧ ∀ g, aop P (withTab T callF) env o g = some (v, g) := by
  unfold kindOf at hk
  split at hk <;> first
    | (cases hk; done)
    | (simp only [aop] at ho ⊢; cases ho; exact ⟨rfl, fun _ => rfl⟩)
    | (simp only [aop] at ho ⊢; obtain ⟨e1, e2⟩ := map_pair ho; exact ⟨e1, fun g => by rw [e2]; rfl⟩)
    | skip
  · simp only [aop] at ho ⊢
    split at ho
    · cases ho; exact ⟨rfl, fun _ => rfl⟩
    · cases ho
  · simp only [aop] at ho ⊢
    split at ho <;> cases ho <;> exact ⟨rfl, fun _ => rfl⟩
  · simp only [aop] at ho ⊢
    split at ho <;> cases ho
    exact ⟨rfl, fun _ => rfl⟩
  · simp only [aop] at ho ⊢
    split at ho
    · obtain ⟨e1, e2⟩ := map_pair ho; exact ⟨e1, fun g => by rw [e2]; rfl⟩
    · cases ho
  · split at hk
    · rename_i k hu
      simp only [aop, aconv, hu] at ho ⊢
      revert ho
      generalize evalOp env _ = y
      intro ho
      cases hs : P.underlying _ with
      | none => simp only [hs] at ho; cases ho
      | some d =>
        simp only [hs] at ho ⊢
        cases y <;> first | (cases ho; exact ⟨rfl, fun _ => rfl⟩) | (split at ho <;> simp_all)
    · cases hk
    · cases hk
  · split at hk
    · rename_i hu
      simp only [aop] at ho ⊢
      obtain ⟨e1, e2⟩ := map_pair ho
      exact ⟨e1, fun g => by rw [free_slice (.inl hu) _ _ _ _ g h, e2]; rfl⟩
    · rename_i e hu
      simp only [aop] at ho ⊢
      obtain ⟨e1, e2⟩ := map_pair ho
      exact ⟨e1, fun g => by rw [free_slice (.inr ⟨e, hu⟩) _ _ _ _ g h, e2]; rfl⟩
    · cases hk
  · rename_i c
    unfold kindCall at hk
    simp only [aop, acall1] at ho ⊢
    split at hk
    · rename_i hc
      simp only [hc, abuiltin] at ho ⊢
      cases ht : c.argTypes[0]? with
      | none => simp only [ht] at ho; cases ho
      | some t =>
        simp only [ht, Option.map_some] at hk ho ⊢
        have hf : P.underlying t = some .string ∨ (∃ e, P.underlying t = some (.slice e)) ∨ ∃ n e, P.underlying t = some (.array n e) := by
          split at hk
          · rename_i e; left; exact Option.some.inj e
          · rename_i e; right; left; exact ⟨_, Option.some.inj e⟩
          · rename_i e; right; right; exact ⟨_, _, Option.some.inj e⟩
          · cases hk
        split at ho
        · rename_i t' x e1 e2
          cases e1
          obtain ⟨e3, e4⟩ := map_pair ho
          exact ⟨e3, fun g => by rw [free_len hf _ g h, e4]; rfl⟩
        · cases ho
    · rename_i hc
      simp only [hc, abuiltin] at ho ⊢
      obtain ⟨e1, e2⟩ := map_pair ho; exact ⟨e1, fun g => by rw [e2]; rfl⟩
    · rename_i hc
      simp only [hc, abuiltin] at ho ⊢
      obtain ⟨e1, e2⟩ := map_pair ho; exact ⟨e1, fun g => by rw [e2]; rfl⟩
    · rename_i hc
      simp only [hc, abuiltin, asliceData] at ho ⊢
      split at ho
      · cases ho; exact ⟨rfl, fun _ => rfl⟩
      · split at ho
        · rename_i hl; cases ho; exact ⟨rfl, fun _ => by rw [if_pos hl]⟩
        · cases ho
      · cases ho
    · rename_i f hc
      simp only [hc, evalOp, List.nil_append, List.append_nil, withTab] at ho ⊢
      split at hk
      · rename_i k hT
        simp only [hT, PK.run] at ho ⊢
        obtain ⟨e1, e2⟩ := map_pair ho; exact ⟨e1, fun g => by rw [e2]; rfl⟩
      · cases hk
      · cases hk
    · cases hk

theorem kind_read {T : PTab} {callF : CallF} {env : List AV} {o : Op} (hk : kindOf P T o = .read) {v : AV} {h h' : AH} (ho : aop P (withTab T callF) env o h = some (v, h')) : h' = h := by
  unfold kindOf at hk
  split at hk <;> first
    | (cases hk; done)
    | (simp only [aop] at ho; exact (map_pair ho).1)
    | skip
  · split at hk
    · cases hk
    · rename_i hu
      simp only [aop, aconv, hu] at ho
      split at ho
      all_goals first
        | (cases ho; rfl)
        | (cases ho; done)
        | (exfalso; simp_all; done)
        | (split at ho <;> first
            | (cases ho; done)
            | (exfalso; simp_all; done)
            | (split at ho <;> first
                | (cases ho; done)
                | (exfalso; simp_all; done)
                | (obtain ⟨l, _, e⟩ := Option.map_eq_some_iff.1 ho; cases e; rfl)))
    · cases hk
  · rename_i c
    unfold kindCall at hk
    simp only [aop, acall1] at ho
    split at hk
    · rename_i hc
      simp only [hc, abuiltin] at ho
      split at ho
      · exact (map_pair ho).1
      · cases ho
    · cases hk
    · cases hk
    · cases hk
    · rename_i f hc
      simp only [hc, evalOp, List.nil_append, List.append_nil, withTab] at ho
      split at hk
      · cases hk
      · rename_i k hT
        simp only [hT, PK.run] at ho
        exact (map_pair ho).1
      · cases hk
    · cases hk

end
/-! M16 -/
section
set_option linter.unusedSimpArgs false
set_option linter.unusedVariables false
open Go Go.RowKit

variable {P : Program}

theorem aop_congr {callF : CallF} {env env' : List AV} (o : Op) (hE : ∀ x ∈ o.operands, evalOp env x = evalOp env' x) (h : AH) : aop P callF env o h = aop P callF env' o h := by
  have e1 : ∀ x, x ∈ o.operands.toList → evalOp env x = evalOp env' x := fun x hx => hE x (by simpa using hx)
  clear hE
  cases o <;> simp only [Op.operands] at e1 <;> first
    | rfl
    | (simp only [aop]; rw [e1 _ (by simp)]; done)
    | (simp only [aop]; rw [e1 _ (by simp)]; rfl)
    | (simp only [aop]; rw [e1 _ (List.mem_cons_self ..), e1 _ (List.mem_cons_of_mem _ (List.mem_cons_self ..))]; done)
    | (simp only [aop]; rw [e1 _ (List.mem_cons_self ..), e1 _ (List.mem_cons_of_mem _ (List.mem_cons_self ..)), e1 _ (List.mem_cons_of_mem _ (List.mem_cons_of_mem _ (List.mem_cons_self ..)))]; done)
    | skip
  case build t ps =>
    simp only [aop]
    rw [List.map_congr_left fun p hp => by rw [e1 p.2 (by simp; exact ⟨p.1, by simpa using hp⟩)]]
  case buildSlice t n ps =>
    simp only [aop]
    rw [List.map_congr_left fun p hp => by rw [e1 p.2 (by simp; exact ⟨p.1, by simpa using hp⟩)]]
  case makeFunc fn a b =>
    simp only [aop]
    rw [List.map_congr_left (l := a.toList) fun x hx => e1 x (by simp at hx ⊢; exact .inl hx), List.map_congr_left (l := b.toList) fun x hx => e1 x (by simp at hx ⊢; exact .inr hx)]
  case makeMap t r =>
    cases r <;> rfl
  case slice t x lo hi mx =>
    simp only [aop]
    rw [e1 x (by simp)]
    have e2 : lo.map (evalOp env) = lo.map (evalOp env') := by
      cases lo with
      | none => rfl
      | some y => simp only [Option.map_some]; rw [e1 y (by simp)]
    have e3 : hi.map (evalOp env) = hi.map (evalOp env') := by
      cases hi with
      | none => rfl
      | some y => simp only [Option.map_some]; rw [e1 y (by simp)]
    have e4 : mx.map (evalOp env) = mx.map (evalOp env') := by
      cases mx with
      | none => rfl
      | some y => simp only [Option.map_some]; rw [e1 y (by simp)]
    rw [e2, e3, e4]
  case call c =>
    simp only [aop, acall1]
    have e2 : c.args.toList.map (evalOp env) = c.args.toList.map (evalOp env') := List.map_congr_left fun x hx => e1 x (by
      unfold Call.operands
      cases c.callee <;> simp_all)
    cases hc : c.callee with
    | builtin b => simp only [e2]
    | value f =>
      simp only [e2]
      rw [e1 f (by unfold Call.operands; simp [hc])]
    | invoke a b => rfl

theorem bits_fold (acc : Array Nat) (a : Nat) : ∀ (es : List Edge) (s : Nat), (es.foldl (fun s e => if Region.binds .any e then s ||| 2 ^ e.on ||| acc.getD e.on 0 else s) s).testBit a = true →
    s.testBit a = true ∨ ∃ e ∈ es, Region.binds .any e = true ∧ (e.on = a ∨ (acc.getD e.on 0).testBit a = true)
  | [], s, h => .inl h
  | e :: es, s, h => by
    rw [List.foldl_cons] at h
    rcases bits_fold acc a es _ h with h1 | ⟨e', he', hb⟩
    · split at h1
      · rename_i hb
        rw [Nat.testBit_or, Nat.testBit_or, Nat.testBit_two_pow] at h1
        simp only [Bool.or_eq_true, decide_eq_true_eq] at h1
        rcases h1 with (h1 | h1) | h1
        · exact .inl h1
        · exact .inr ⟨e, List.mem_cons_self .., hb, .inl h1⟩
        · exact .inr ⟨e, List.mem_cons_self .., hb, .inr h1⟩
      · exact .inl h1
    · exact .inr ⟨e', List.mem_cons_of_mem _ he', hb⟩

theorem before_fold (ops : Array Oper) : ∀ (l : List Oper) (acc : Array Nat), ops.toList.drop acc.size = l →
    (∀ j a, (acc.getD j 0).testBit a = true → ∃ o, ops[j]? = some o ∧ ∃ e ∈ o.after, Region.binds .any e = true ∧ (e.on = a ∨ (acc.getD e.on 0).testBit a = true)) →
    ∀ acc', acc' = l.foldl (fun acc o => acc.push (o.after.foldl (fun s e => if Region.binds .any e then s ||| 2 ^ e.on ||| acc.getD e.on 0 else s) 0)) acc →
    ∀ j a, (acc'.getD j 0).testBit a = true → ∃ o, ops[j]? = some o ∧ ∃ e ∈ o.after, Region.binds .any e = true ∧ (e.on = a ∨ (acc'.getD e.on 0).testBit a = true)
  | [], acc, hl, hi, acc', he, j, a, h => by subst he; exact hi j a h
  | o :: l, acc, hl, hi, acc', he, j, a, h => by
    rw [List.foldl_cons] at he
    have hk : ops[acc.size]? = some o := by
      have : (ops.toList.drop acc.size)[0]? = some o := by rw [hl]; rfl
      rw [List.getElem?_drop] at this
      simpa using this
    refine before_fold ops l _ ?_ ?_ acc' he j a h
    · rw [Array.size_push, ← List.drop_drop, hl]; rfl
    · have grow : ∀ s k b, (acc.getD k 0).testBit b = true → ((acc.push s).getD k 0).testBit b = true := fun s k b hb => by
        rcases Nat.lt_or_ge k acc.size with hlt | hge
        · have : (acc.push s).getD k 0 = acc.getD k 0 := by
            rw [Array.getD_eq_getD_getElem?, Array.getD_eq_getD_getElem?, Array.getElem?_push_lt hlt, Array.getElem?_eq_getElem hlt]
          rw [this]; exact hb
        · rw [Array.getD_eq_getD_getElem?, Array.getElem?_eq_none hge] at hb
          simp at hb
      intro k b hb
      rcases Nat.lt_trichotomy k acc.size with hlt | heq | hgt
      · have : ((acc.push (o.after.foldl (fun s e => if Region.binds .any e then s ||| 2 ^ e.on ||| acc.getD e.on 0 else s) 0)).getD k 0) = acc.getD k 0 := by
          rw [Array.getD_eq_getD_getElem?, Array.getD_eq_getD_getElem?, Array.getElem?_push_lt hlt, Array.getElem?_eq_getElem hlt]
        rw [this] at hb
        obtain ⟨o', ho', e, hee, hbb, hc⟩ := hi k b hb
        exact ⟨o', ho', e, hee, hbb, hc.imp id (grow _ _ _)⟩
      · subst heq
        rw [Array.getD_eq_getD_getElem?, Array.getElem?_push_size, Option.getD_some] at hb
        rw [← Array.foldl_toList] at hb
        rcases bits_fold acc b _ _ hb with h0 | ⟨e, hee, hbb, hc⟩
        · simp at h0
        · exact ⟨o, hk, e, by simpa using hee, hbb, hc.imp id (grow _ _ _)⟩
      · rw [Array.getD_eq_getD_getElem?, Array.getElem?_eq_none (by rw [Array.size_push]; omega)] at hb
        simp at hb

theorem before_spec (ops : Array Oper) (j a : Nat) (h : ((Region.before ops).getD j 0).testBit a = true) : ∃ o, ops[j]? = some o ∧ ∃ e ∈ o.after, Region.binds .any e = true ∧ (e.on = a ∨ ((Region.before ops).getD e.on 0).testBit a = true) := by
  refine before_fold ops ops.toList #[] rfl (fun j a h => by simp at h) _ ?_ j a h
  rw [Region.before, ← Array.foldl_toList]

end
/-! M17 -/
section
set_option linter.unusedSimpArgs false
set_option linter.unusedVariables false
open Go Go.RowKit

variable {P : Program} {B : Nat} {φ : Nat → Loc} {h : AH} {w : World} {T : PTab} {ops : Array Oper} {callF : CallF} {gops : Array Oper} {st : Nat → List AV × AH}

def quiet (ops : Array Oper) (x y : Oper) : Bool :=
  match x.dst with
  | some d => !(y.looksAt ops).contains d
  | none => true

def kindsApart (P : Program) (T : PTab) (x y : Oper) : Bool :=
  match kindOf P T x.op, kindOf P T y.op with
  | .write, .free => true
  | .write, _ => false
  | _, _ => true

def readC (T : PTab) (o : Op) : Bool :=
  match o with
  | .call c => match c.callee with
    | .value (.func f) => match T f with
      | some (.read _) => true
      | _ => false
    | _ => false
  | _ => false
theorem readC_ok {T : PTab} {o : Op} (h : readC T o = true) : ∃ c f k, o = .call c ∧ c.callee = .value (.func f) ∧ T f = some (.read k) := by
  unfold readC at h
  split at h
  · split at h
    · rename_i c f hc
      split at h
      · rename_i k hk; exact ⟨_, _, k, rfl, hc, hk⟩
      · cases h
    · cases h
  · cases h

def isLd (o : Op) : Bool :=
  match o with
  | .load _ _ => true
  | _ => false
/-- One that loads, or reads, behind which a new block is made. -/
def newB (o : Op) : Bool :=
  match o with
  | .alloc _ => true
  | .box _ _ => true
  | _ => false
def loadNew (T : PTab) (x y : Oper) : Bool := (isLd x.op || readC T x.op) && newB y.op

/-! One that loads from a place that was there ahead of the region may stand in any order with those that make new blocks. -/
def isSl (o : Op) : Bool :=
  match o with
  | .buildSlice _ _ _ => true
  | .call c => match c.callee with
    | .builtin .append => true
    | _ => false
  | _ => false

def newW (ops : Array Oper) (j : Nat) (o : Op) : Bool :=
  match o with
  | .alloc _ => true
  | .box _ _ => true
  | .buildSlice _ _ _ => true
  | .call c => match c.callee, c.args.toList with
    | .builtin .append, .tmp a :: _ => (List.range j).any fun i => match ops[i]? with
      | some x => x.dst == some a && isSl x.op
      | none => false
    | _, _ => false
  | _ => false

def allNew (P : Program) (T : PTab) (ops : Array Oper) : Bool :=
  (List.range ops.size).all fun j => match ops[j]? with
    | some o => !(kindOf P T o.op == .write) || newW ops j o.op
    | none => true

def lowR (ops : Array Oper) : Nat → Nat → Bool
  | 0, _ => false
  | n + 1, a => ops.toList.all fun o => !(o.dst == some a) || (match o.op with
    | .fieldAddr _ (.tmp b) _ => lowR ops n b
    | _ => false)

def steadyL (ops : Array Oper) (o : Op) : Bool :=
  match o with
  | .load _ (.tmp a) => lowR ops ops.size a
  | _ => false

/-- A register that holds, where the operation of this number runs, a place in the block at which a0 points. -/
def rootR (ops : Array Oper) (a0 : Nat) : Nat → Nat → Nat → Bool
  | 0, _, _ => false
  | n + 1, a, i => (a == a0 && ops.toList.all fun o => !(o.dst == some a)) || (List.range i).any fun j => match ops[j]? with
    | some o => o.dst == some a && (match o.op with
      | .fieldAddr _ (.tmp b) _ => rootR ops a0 n b j
      | .indexAddr _ (.tmp b) _ => rootR ops a0 n b j
      | .nilCheck (.tmp b) => rootR ops a0 n b j
      | .move (.tmp b) => rootR ops a0 n b j
      | .assign (.tmp b) => rootR ops a0 n b j
      | _ => false)
    | none => false

def rootL (ops : Array Oper) (as : List Nat) (i : Nat) (o : Op) : Bool :=
  match o with
  | .load _ (.tmp a) => as.any fun a0 => rootR ops a0 ops.size a i
  | _ => false

def keepW (o : Op) : Bool :=
  match o with
  | .alloc _ => true
  | .box _ _ => true
  | .buildSlice _ _ _ => true
  | .call c => match c.callee with
    | .value (.func _) => true
    | _ => false
  | _ => false

/-- One that stores where one of these points. -/
def rootS (ops : Array Oper) (bs : List Nat) (j : Nat) (o : Op) : Bool :=
  match o with
  | .store _ (.tmp p) _ => bs.any fun b => rootR ops b ops.size p j
  | _ => false

/-- All that write make new blocks, or store where one of these points. -/
def allKeep (P : Program) (T : PTab) (bs : List Nat) (ops : Array Oper) : Bool :=
  (List.range ops.size).all fun j => match ops[j]? with
    | some o => !(kindOf P T o.op == .write) || keepW o.op || rootS ops bs j o.op
    | none => true

/-- The block that a value names. -/
def hidM : AV → Option Nat
  | .ptr id _ => some id
  | .sl id _ _ _ => some id
  | .map id => some id
  | _ => none
/-- Such an answer hangs on the blocks that the arguments name. -/
def MonoRead (k : List AV → AH → Option AV) : Prop := ∀ args h h' v, k args h = some v → (∀ x ∈ args, ∀ id, hidM x = some id → ∀ q, h.get id = some q → h'.get id = some q) → k args h' = some v
def PTabMono (T : PTab) : Prop := ∀ f k, T f = some (.read k) → MonoRead k
def sideOK (P : Program) (T : PTab) (s : Option (List Nat × List Nat)) (ops : Array Oper) (i : Nat) (x : Op) (j : Nat) (y : Op) : Bool :=
  match s with
  | none => allNew P T ops && (steadyL ops x || steadyL ops y)
  | some r => allKeep P T r.2 ops && ((rootL ops r.1 i x || (r.2.isEmpty && readC T x)) || (rootL ops r.1 j y || (r.2.isEmpty && readC T y)))

def pairOK (P : Program) (T : PTab) (s : Option (List Nat × List Nat)) (ops : Array Oper) (b : Array Nat) (i j : Nat) : Bool :=
  match ops[i]?, ops[j]? with
  | some x, some y => (match x.dst with | some d => !(y.dst == some d) | none => true) &&
      ((b.getD j 0).testBit i || (quiet ops x y && quiet ops y x && (loadNew T x y || (kindsApart P T x y && kindsApart P T y x) || sideOK P T s ops i x.op j y.op)))
  | _, _ => false

def edgesOK (ops : Array Oper) (j : Nat) : Bool :=
  match ops[j]? with
  | some o => o.after.all fun e => !Region.binds .any e || decide (e.on < j)
  | none => false

def dOKx (P : Program) (T : PTab) (s : Option (List Nat × List Nat)) (ops : Array Oper) : Bool :=
  (fun b => (List.range ops.size).all fun j => edgesOK ops j && (List.range j).all fun i => pairOK P T s ops b i j) (Region.before ops)
abbrev dOK (P : Program) (T : PTab) (ops : Array Oper) : Bool := dOKx P T none ops

/-- What is there stays as it is. -/
def Keep (h h' : AH) : Prop := ∀ id o, h.get id = some o → h'.get id = some o
theorem Keep.refl (h : AH) : Keep h h := fun _ _ hg => hg
theorem Keep_refl (h : AH) : Keep h h = True := propext ⟨fun _ => trivial, fun _ => Keep.refl h⟩

open Classical in
/-- Calls that leave what is there as it is. -/
noncomputable def keepF (callF : CallF) : CallF := fun f args h =>
  match callF f args h with
  | some r => if Keep h r.2 ∧ h.n ≤ r.2.n then some r else none
  | none => none

theorem keepF_some {callF : CallF} {f : FuncId} {args : List AV} {h : AH} {r : AV × AH} (e : keepF callF f args h = some r) : callF f args h = some r ∧ Keep h r.2 ∧ h.n ≤ r.2.n := by
  unfold keepF at e
  split at e
  · rename_i q hq
    split at e
    · rename_i hk; cases e; exact ⟨hq, hk⟩
    · cases e
  · cases e

/-! Where all that write keep what is there, makers of new blocks may stand in any order. The text's order is left: a call comes as soon as it may. -/
def mkW (o : Op) : Bool :=
  match o with
  | .alloc _ => true
  | .box _ _ => true
  | .buildSlice _ _ _ => true
  | .makeMap _ none => true
  | .makeSlice _ _ _ => true
  | _ => false
def callFn (o : Op) : Bool :=
  match o with
  | .call c => match c.callee with
    | .value (.func _) => true
    | _ => false
  | _ => false
def lateL (ops : Array Oper) : List Nat :=
  (fun b => (fun acc => acc ++ (List.range ops.size).filter fun i => !acc.contains i) ((List.range ops.size).foldl (fun acc j => match ops[j]? with
    | some o => if callFn o.op && !acc.contains j then acc ++ ((List.range j).filter fun i => (b.getD j 0).testBit i && !acc.contains i) ++ [j] else acc
    | none => acc) [])) (Region.before ops)
def seqOf (ops : Array Oper) (L : List Nat) : Array Oper := (L.filterMap fun i => ops[i]?).toArray
/-- Is this such a region? It hangs on its operations alone. -/
def late (P : Program) (ops : Array Oper) : Bool :=
  ops.toList.all (fun o => isLd o.op || mkW o.op || callFn o.op || kindOf P (fun _ => none) o.op == .free) &&
  (fun b => (List.range ops.size).any fun j => match ops[j]? with
    | some y => (mkW y.op || callFn y.op) && (List.range j).any fun i => match ops[i]? with
      | some x => (mkW x.op || (callFn x.op && mkW y.op)) && !(b.getD j 0).testBit i
      | none => false
    | none => false) (Region.before ops)
/-- One that loads, in order with all that write. -/
def ordL (P : Program) (T : PTab) (b : Array Nat) (L : List Nat) (sq : Array Oper) (j : Nat) (o : Op) : Bool :=
  isLd o && (List.range L.length).all fun p => match L[p]?, sq[p]? with
    | some i, some x => !(kindOf P T x.op == .write) || (b.getD j 0).testBit i || (b.getD i 0).testBit j
    | _, _ => false
def opK (P : Program) (T : PTab) (as : List Nat) (b : Array Nat) (L : List Nat) (sq : Array Oper) (q j : Nat) (o : Oper) : Bool :=
  match kindOf P T o.op with
  | .free => true
  | .read => rootL sq as q o.op || readC T o.op || ordL P T b L sq j o.op
  | .write => mkW o.op || callFn o.op
def pairK (P : Program) (T : PTab) (ops : Array Oper) (b : Array Nat) (i j : Nat) (x y : Oper) : Bool :=
  !(i == j) && (match x.dst with | some d => !(y.dst == some d) | none => true) &&
    ((b.getD j 0).testBit i || (quiet ops x y && quiet ops y x && (!(kindOf P T x.op == .write) || !(kindOf P T y.op == .write) || mkW y.op)))
def dKx (P : Program) (T : PTab) (as : List Nat) (ops : Array Oper) : Bool :=
  (fun b L => (fun sq => L.length == ops.size && L.all (fun i => decide (i < ops.size)) && (List.range ops.size).all (fun i => L.contains i) &&
    (List.range L.length).all fun q => match L[q]?, sq[q]? with
      | some j, some y => opK P T as b L sq q j y && y.after.all (fun e => !Region.binds .any e || (L.take q).contains e.on) && (List.range q).all fun p => match L[p]?, sq[p]? with
        | some i, some x => pairK P T ops b i j x y
        | _, _ => false
      | _, _ => false) (seqOf ops L)) (Region.before ops) (lateL ops)

/-- A value that points into this block, or nowhere. -/
def RootV (id0 : Nat) (x : AV) : Prop := x = .undef ∨ x = .val (.slice none 0 0) ∨ (∃ off, x = .ptr id0 off) ∨ ∃ off n sz, x = .sl id0 off n sz

open Classical in
noncomputable def drawnOf (P : Program) (T : PTab) : Drawn := fun callF ops env h =>
  if late P ops = true then (if ∃ as, dKx P T as ops = true ∧ (∀ a ∈ as, ∃ id, RootV id (env.getD a .undef)) then aops P (withTab T (keepF callF)) ops (seqOf ops (lateL ops)).toList env h else none)
  else if dOK P T ops = true then aops P (withTab T callF) ops ops.toList env h
  else if ∃ as bs, dOKx P T (some (as, bs)) ops = true ∧ (∀ a ∈ as, ∃ id, RootV id (env.getD a .undef) ∧ ∀ b ∈ bs, ∃ idb, RootV idb (env.getD b .undef) ∧ idb ≠ id) then aops P (withTab T (keepF callF)) ops ops.toList env h
  else none

def anc (ops : Array Oper) (j i : Nat) : Prop := ((Region.before ops).getD j 0).testBit i = true

structure DChk (P : Program) (T : PTab) (s : Option (List Nat × List Nat)) (ops : Array Oper) : Prop where
  edge : ∀ (j : Nat) (o : Oper), ops[j]? = some o → ∀ e ∈ o.after, Region.binds .any e = true → e.on < j
  dst : ∀ (i j : Nat) (x y : Oper), i < j → ops[i]? = some x → ops[j]? = some y → ∀ d, x.dst = some d → y.dst ≠ some d
  pair : ∀ (i j : Nat) (x y : Oper), i < j → ops[i]? = some x → ops[j]? = some y → anc ops j i ∨ (quiet ops x y = true ∧ quiet ops y x = true ∧ ((loadNew T x y = true ∨ (kindsApart P T x y = true ∧ kindsApart P T y x = true)) ∨ sideOK P T s ops i x.op j y.op = true))

theorem lt_of_get {i : Nat} {o : Oper} (h : ops[i]? = some o) : i < ops.size := (Array.getElem?_eq_some_iff.1 h).1

theorem dchk {s : Option (List Nat × List Nat)} (h : dOKx P T s ops = true) : DChk P T s ops := by
  unfold dOKx at h
  simp only [List.all_eq_true, List.mem_range, Bool.and_eq_true] at h
  refine ⟨fun j o ho e he hb => ?_, fun i j x y hij hx hy d hd => ?_, fun i j x y hij hx hy => ?_⟩
  · have h1 := (h j (lt_of_get ho)).1
    simp only [edgesOK, ho, Array.all_eq_true_iff_forall_mem] at h1
    have := h1 e he
    simp only [hb, Bool.not_true, Bool.false_or, decide_eq_true_eq] at this
    exact this
  · have h1 := (h j (lt_of_get hy)).2 i hij
    simp only [pairOK, hx, hy, hd, Bool.and_eq_true] at h1
    intro e
    rw [e] at h1
    simp at h1
  · have h1 := (h j (lt_of_get hy)).2 i hij
    simp only [pairOK, hx, hy, Bool.and_eq_true, Bool.or_eq_true] at h1
    rcases h1.2 with h2 | h2
    · exact .inl h2
    · exact .inr ⟨h2.1.1, h2.1.2, h2.2⟩

theorem run_states : ∀ (l : List Oper) (k : Nat) (env : List AV) (h : AH) (r : List AV × AH), ops.toList.drop k = l → aops P callF gops l env h = some r →
    ∃ st : Nat → List AV × AH, st k = (env, h) ∧ (k ≤ ops.size → st ops.size = r) ∧ ∀ i o, k ≤ i → ops[i]? = some o → astep P callF gops o (st i).1 (st i).2 = some (st (i + 1))
  | [], k, env, h, r, hl, hs => by
    simp only [aops] at hs
    cases hs
    refine ⟨fun _ => (env, h), rfl, fun _ => rfl, fun i o hi ho => ?_⟩
    have h1 : ops.size ≤ k := by
      have := congrArg List.length hl
      simp at this
      omega
    have := lt_of_get ho
    omega
  | o :: l, k, env, h, r, hl, hs => by
    simp only [aops] at hs
    split at hs
    rotate_left
    · cases hs
    rename_i r1 h1
    have hk : ops[k]? = some o := by
      have : (ops.toList.drop k)[0]? = some o := by rw [hl]; rfl
      rw [List.getElem?_drop] at this
      simpa using this
    have hl' : ops.toList.drop (k + 1) = l := by
      rw [← List.drop_drop, hl]; rfl
    obtain ⟨st, e1, e2, e3⟩ := run_states l (k + 1) r1.1 r1.2 r hl' hs
    have hlt := lt_of_get hk
    refine ⟨fun i => if i = k then (env, h) else st i, by simp, fun _ => ?_, fun i o' hi ho' => ?_⟩
    · simp only []
      rw [if_neg (by omega)]
      exact e2 (by omega)
    · simp only []
      rcases Nat.lt_or_ge k i with hlt' | hge
      · rw [if_neg (by omega), if_neg (by omega)]
        exact e3 i o' (by omega) ho'
      · have : i = k := by omega
        subst this
        rw [hk] at ho'
        cases ho'
        rw [if_pos rfl, if_neg (by omega), e1]
        exact h1

theorem step_val {o : Oper} {env : List AV} {h : AH} {r : List AV × AH} (hs : astep P callF ops o env h = some r) : ∃ v, r.1 = eput env o.dst v ∧ ((awanted ops o env = some true ∧ aop P callF env o.op h = some (v, r.2)) ∨ (awanted ops o env = some false ∧ v = .undef ∧ r.2 = h)) := by
  unfold astep at hs
  split at hs
  · rename_i hw
    obtain ⟨⟨v, h1⟩, ho, hbb⟩ := map_some hs
    cases hbb
    exact ⟨v, rfl, .inl ⟨hw, ho⟩⟩
  · rename_i hw
    cases hs
    exact ⟨_, rfl, .inr ⟨hw, rfl, rfl⟩⟩
  · cases hs

theorem eput_length (env : List AV) (d : Option Tmp) (v : AV) : (eput env d v).length = env.length := by
  cases d <;> simp [eput]
theorem eput_other {env : List AV} {d : Option Tmp} {v : AV} {t : Nat} (h : d ≠ some t) : (eput env d v)[t]? = env[t]? := by
  cases d with
  | none => rfl
  | some u =>
    have : u ≠ t := fun e => h (by rw [e])
    simp [eput, List.getElem?_set_ne this]
theorem eput_same {env : List AV} {v : AV} {t : Nat} : (eput env (some t) v)[t]? = if t < env.length then some v else none := by
  simp only [eput]
  split
  · rename_i hlt; rw [List.getElem?_set_self hlt]
  · rename_i hlt; rw [List.getElem?_eq_none (by simp; omega)]

section
variable (hst : ∀ i o, ops[i]? = some o → astep P (withTab T callF) gops o (st i).1 (st i).2 = some (st (i + 1)))
include hst

theorem st_length : ∀ i, i ≤ ops.size → (st i).1.length = (st 0).1.length
  | 0, _ => rfl
  | i + 1, hi => by
    have hk : ops[i]? = some ops[i] := Array.getElem?_eq_getElem (by omega)
    obtain ⟨v, e, _⟩ := step_val (hst i _ hk)
    rw [e, eput_length]
    exact st_length i (by omega)

theorem st_keep {t : Nat} (m : Nat) : ∀ d, m + d ≤ ops.size → (∀ j o, m ≤ j → j < m + d → ops[j]? = some o → o.dst ≠ some t) → (st (m + d)).1[t]? = (st m).1[t]?
  | 0, _, _ => rfl
  | d + 1, hd, hn => by
    have hk : ops[m + d]? = some ops[m + d] := Array.getElem?_eq_getElem (by omega)
    obtain ⟨v, e, _⟩ := step_val (hst (m + d) _ hk)
    have : m + (d + 1) = m + d + 1 := by omega
    rw [this, e, eput_other (hn (m + d) _ (by omega) (by omega) hk)]
    exact st_keep m d (by omega) fun j o h1 h2 => hn j o h1 (by omega)

theorem st_heap1 {i : Nat} {o : Oper} (ho : ops[i]? = some o) (hk : kindOf P T o.op ≠ .write) : (st (i + 1)).2 = (st i).2 := by
  obtain ⟨v, e, h1 | h1⟩ := step_val (hst i _ ho)
  · cases hc : kindOf P T o.op with
    | free => exact (kind_free hc h1.2).1
    | read => exact kind_read hc h1.2
    | write => exact absurd hc hk
  · exact h1.2.2

theorem st_heap (m : Nat) : ∀ d, m + d ≤ ops.size → (∀ j o, m ≤ j → j < m + d → ops[j]? = some o → kindOf P T o.op ≠ .write) → (st (m + d)).2 = (st m).2
  | 0, _, _ => rfl
  | d + 1, hd, hn => by
    have hk : ops[m + d]? = some ops[m + d] := Array.getElem?_eq_getElem (by omega)
    have : m + (d + 1) = m + d + 1 := by omega
    rw [this, st_heap1 hst hk (hn (m + d) _ (by omega) (by omega) hk)]
    exact st_heap m d (by omega) fun j o h1 h2 => hn j o h1 (by omega)

end

structure Fresh (n0 : Nat) (h h' : AH) (v : AV) : Prop where
  n : h.n ≤ h'.n
  low : ∀ id, id < n0 → h'.get id = h.get id
  gv : ∀ id g c, n0 ≤ id → h'.get id = some (.gvar g c) → h.get id = some (.gvar g c)
  sl : ∀ id off len sz, v = .sl id off len sz → n0 ≤ id

theorem Fresh.push {n0 : Nat} {h : AH} (hn : n0 ≤ h.n) {c : List AV} {b : Bool} {fz : Nat} {ty : Option (TypeId × Bool)} {v : AV} (hv : ∀ id off len sz, v = .sl id off len sz → id = h.n) : Fresh n0 h (h.push (.cells c b fz ty)) v := by
  refine ⟨by rw [AH.push_n]; omega, fun id hi => by rw [AH.get_push_old (by omega)], fun id g c' hi hg => ?_, fun id off len sz e => by rw [hv id off len sz e]; exact hn⟩
  by_cases e : id = h.n
  · subst e; rw [AH.get_push_new] at hg; cases hg
  · rw [AH.get_push_ne e] at hg; exact hg

theorem aappendAt_new {n0 : Nat} {e : TypeId} {sz n : Nat} {xs : List AV} {s v : AV} {h h' : AH} (ha : aappendAt e sz n xs s h = some (v, h')) (hn : n0 ≤ h.n) (hs : ∀ id off len sz, s = .sl id off len sz → n0 ≤ id) : Fresh n0 h h' v := by
  unfold aappendAt at ha
  split at ha
  · split at ha
    · cases ha; exact ⟨Nat.le_refl _, fun _ _ => rfl, fun _ _ _ _ h => h, fun _ _ _ _ e => by cases e⟩
    · cases ha; exact Fresh.push hn fun id off len sz e => by cases e; rfl
  · rename_i id off len sz'
    have hid := hs id off len sz' rfl
    split at ha
    · cases ha; exact ⟨Nat.le_refl _, fun _ _ => rfl, fun _ _ _ _ h => h, fun _ _ _ _ e => by cases e; exact hid⟩
    · split at ha
      · rename_i c fz ty hg
        split at ha
        · cases ha
          have hp := Fresh.push (n0 := n0) (h := h.set id .dead) (c := (c.drop off).take (len * sz) ++ xs) (b := true) (fz := fz - off) (ty := tyApp e ty) (v := .sl h.n 0 (len + n) sz) (by rw [AH.set_n]; exact hn) (fun _ _ _ _ e => by cases e; rw [AH.set_n])
          refine ⟨by have := hp.n; rw [AH.set_n] at this; exact this, fun k hk => ?_, fun k g c' hk hg' => ?_, hp.sl⟩
          · rw [hp.low k hk, AH.get_set_ne (by omega)]
          · have h1 := hp.gv k g c' hk hg'
            by_cases ek : k = id
            · subst ek; rw [AH.get_set_same hg] at h1; cases h1
            · rw [AH.get_set_ne ek] at h1; exact h1
        · cases ha
      · cases ha
  · cases ha

theorem aappend_new {n0 : Nat} {ts : Array TypeId} {s : AV} {l : List AV} {v : AV} {h h' : AH} (ha : aappend P ts (s :: l) h = some (v, h')) (hn : n0 ≤ h.n) (hs : ∀ id off len sz, s = .sl id off len sz → n0 ≤ id) : Fresh n0 h h' v := by
  unfold aappend at ha
  split at ha
  · rename_i e3
    cases e3
    split at ha
    · split at ha
      · split at ha
        · exact aappendAt_new ha hn hs
        · cases ha
      · cases ha
    · unfold aappendN at ha
      split at ha
      · split at ha
        · split at ha
          · split at ha
            · exact aappendAt_new ha hn hs
            · cases ha
          · cases ha
        · cases ha
      · cases ha
    · cases ha
  · cases ha

theorem abuildSlice_new {n0 : Nat} {t : TypeId} {len : Nat} {ps : List (Nat × AV)} {v : AV} {h h' : AH} (ha : abuildSlice P t len ps h = some (v, h')) (hn : n0 ≤ h.n) : Fresh n0 h h' v := by
  unfold abuildSlice at ha
  split at ha
  rotate_left
  · cases ha
  split at ha
  rotate_left
  · cases ha
  split at ha
  · cases ha
  split at ha
  rotate_left
  · cases ha
  split at ha
  rotate_left
  · cases ha
  split at ha
  · cases ha
  split at ha
  · cases ha
    exact Fresh.push hn fun id off len sz e => by cases e; rfl
  · cases ha

theorem abuildSlice_keep {t : TypeId} {len : Nat} {ps : List (Nat × AV)} {v : AV} {h h' : AH} (ha : abuildSlice P t len ps h = some (v, h')) : Keep h h' := by
  unfold abuildSlice at ha
  split at ha
  rotate_left
  · cases ha
  split at ha
  rotate_left
  · cases ha
  split at ha
  · cases ha
  split at ha
  rotate_left
  · cases ha
  split at ha
  rotate_left
  · cases ha
  split at ha
  · cases ha
  split at ha
  · cases ha
    intro id o hg
    rw [AH.get_push_ne (by have := AH.get_lt hg; omega)]; exact hg
  · cases ha

/-- What holds in the text's order, ahead of each operation. -/
structure Told (ops : Array Oper) (st : Nat → List AV × AH) (m : Nat) : Prop where
  n : (st 0).2.n ≤ (st m).2.n
  low : ∀ id, id < (st 0).2.n → (st m).2.get id = (st 0).2.get id
  gv : ∀ id g c, (st 0).2.n ≤ id → (st m).2.get id = some (.gvar g c) → False
  sl : ∀ i x t, i < m → ops[i]? = some x → isSl x.op = true → x.dst = some t → ∀ id off len sz, (st (i + 1)).1[t]? = some (.sl id off len sz) → (st 0).2.n ≤ id

theorem isSl_write {o : Op} (h : isSl o = true) : kindOf P T o = .write := by
  unfold isSl at h
  split at h
  · rfl
  · rename_i c
    split at h
    · rename_i hc
      simp only [kindOf, kindCall, hc]
    · cases h
  · cases h

theorem newW_step (hst : ∀ i o, ops[i]? = some o → astep P (withTab T callF) ops o (st i).1 (st i).2 = some (st (i + 1))) (hd : ∀ (i j : Nat) (x y : Oper), i < j → ops[i]? = some x → ops[j]? = some y → ∀ d, x.dst = some d → y.dst ≠ some d)
    {m : Nat} {o : Oper} (ho : ops[m]? = some o) (hw : newW ops m o.op = true) (ht : Told ops st m) : ∃ v, (st (m + 1)).1 = eput (st m).1 o.dst v ∧ Fresh (st 0).2.n (st m).2 (st (m + 1)).2 v := by
  have hlt := lt_of_get ho
  obtain ⟨v, e, ⟨_, h1⟩ | ⟨_, rfl, h1⟩⟩ := step_val (hst m o ho)
  rotate_left
  · exact ⟨_, e, by rw [h1]; exact ⟨Nat.le_refl _, fun _ _ => rfl, fun _ _ _ _ h => h, fun _ _ _ _ e => by cases e⟩⟩
  refine ⟨v, e, ?_⟩
  have new : ∀ (t : TypeId) (c : List AV), anew t c (st m).2 = (v, (st (m + 1)).2) → Fresh (st 0).2.n (st m).2 (st (m + 1)).2 v := fun t c hb => by
    unfold anew at hb
    obtain ⟨rfl, hb2⟩ := Prod.mk.inj hb
    rw [← hb2]
    exact Fresh.push ht.n fun _ _ _ _ e => by cases e
  unfold newW at hw
  split at hw
  · rename_i hop
    rw [hop] at h1; simp only [aop] at h1
    split at h1
    · obtain ⟨c, hc, hb⟩ := map_some h1; exact new _ _ hb
    · cases h1
  · rename_i hop
    rw [hop] at h1; simp only [aop] at h1
    obtain ⟨c, hc, hb⟩ := map_some h1; exact new _ _ hb
  · rename_i hop
    rw [hop] at h1; simp only [aop] at h1
    exact abuildSlice_new h1 ht.n
  · rename_i c hop
    split at hw
    · rename_i a l hc hargs
      rw [hop] at h1
      simp only [aop, acall1, hc, abuiltin, hargs, List.map_cons, evalOp] at h1
      refine aappend_new h1 ht.n fun id off len sz hs => ?_
      rw [List.any_eq_true] at hw
      obtain ⟨i, hi, hx⟩ := hw
      rw [List.mem_range] at hi
      split at hx
      · rename_i x hx'
        simp only [Bool.and_eq_true, beq_iff_eq] at hx
        have hk : (st m).1[a]? = (st (i + 1)).1[a]? := by
          have := st_keep hst (t := a) (i + 1) (m - (i + 1)) (by omega) fun j o' h1 h2 ho' => hd i j x o' (by omega) hx' ho' a hx.1
          rwa [show i + 1 + (m - (i + 1)) = m by omega] at this
        refine ht.sl i x a hi hx' hx.2 hx.1 id off len sz ?_
        rw [← hk]
        rw [List.getD_eq_getElem?_getD] at hs
        cases hg : (st m).1[a]? with
        | none => rw [hg] at hs; cases hs
        | some y => rw [hg] at hs; simp only [Option.getD_some] at hs; rw [hs]
      · cases hx
    · cases hw
  · cases hw

theorem told (hst : ∀ i o, ops[i]? = some o → astep P (withTab T callF) ops o (st i).1 (st i).2 = some (st (i + 1))) (hd : ∀ (i j : Nat) (x y : Oper), i < j → ops[i]? = some x → ops[j]? = some y → ∀ d, x.dst = some d → y.dst ≠ some d)
    (hn : allNew P T ops = true) : ∀ m, m ≤ ops.size → Told ops st m
  | 0, _ => ⟨Nat.le_refl _, fun _ _ => rfl, fun id g c hi hg => by have := AH.get_lt hg; omega, fun i x t hi => by omega⟩
  | m + 1, hm => by
    have ih := told hst hd hn m (by omega)
    have ho : ops[m]? = some ops[m] := Array.getElem?_eq_getElem (by omega)
    unfold allNew at hn
    rw [List.all_eq_true] at hn
    have h0 := hn m (by rw [List.mem_range]; omega)
    simp only [ho] at h0
    by_cases hw : kindOf P T (ops[m]).op = .write
    · rw [hw] at h0
      have hb : newW ops m (ops[m]).op = true := by simpa using h0
      obtain ⟨v, e, f⟩ := newW_step hst hd ho hb ih
      refine ⟨Nat.le_trans ih.n f.n, fun id hi => by rw [f.low id hi]; exact ih.low id hi, fun id g c hi hg => ih.gv id g c hi (f.gv id g c hi hg), fun i x t hi hx hs ht id off len sz hv => ?_⟩
      rcases Nat.lt_or_ge i m with h1 | h1
      · exact ih.sl i x t h1 hx hs ht id off len sz hv
      · have : i = m := by omega
        subst this
        rw [ho] at hx; cases hx
        rw [e, ht, eput_same] at hv
        split at hv
        · cases hv; exact f.sl _ _ _ _ rfl
        · cases hv
    · have hh := st_heap1 hst ho hw
      refine ⟨by rw [hh]; exact ih.n, fun id hi => by rw [hh]; exact ih.low id hi, fun id g c hi hg => ih.gv id g c hi (by rw [← hh]; exact hg), fun i x t hi hx hs ht id off len sz hv => ?_⟩
      rcases Nat.lt_or_ge i m with h1 | h1
      · exact ih.sl i x t h1 hx hs ht id off len sz hv
      · have : i = m := by omega
        subst this
        rw [ho] at hx; cases hx
        exact absurd (isSl_write hs) hw

theorem lowR_ok (hst : ∀ i o, ops[i]? = some o → astep P (withTab T callF) ops o (st i).1 (st i).2 = some (st (i + 1))) {N : Nat}
    (h0 : ∀ (t id off : Nat), (st 0).1[t]? = some (AV.ptr id off) → id < N) : ∀ (n a : Nat), lowR ops n a = true → ∀ m, m ≤ ops.size → ∀ (id off : Nat), (st m).1[a]? = some (AV.ptr id off) → id < N
  | 0, a, hl, _, _, _, _, _ => by cases hl
  | n + 1, a, hl, 0, _, id, off, hv => h0 a id off hv
  | n + 1, a, hl, m + 1, hm, id, off, hv => by
    have ho : ops[m]? = some ops[m] := Array.getElem?_eq_getElem (by omega)
    obtain ⟨v, e, hc⟩ := step_val (hst m _ ho)
    by_cases hd : (ops[m]).dst = some a
    · have hl' := hl
      rw [lowR, List.all_eq_true] at hl'
      have h1 := hl' ops[m] (by simp)
      simp only [hd, beq_self_eq_true, Bool.not_true, Bool.false_or] at h1
      rw [e, hd, eput_same] at hv
      split at hv
      rotate_left
      · cases hv
      cases hv
      split at h1
      · rename_i s b f hop
        rcases hc with ⟨_, hc⟩ | ⟨_, hc, _⟩
        · rw [hop] at hc
          simp only [aop] at hc
          obtain ⟨w, hw, hb⟩ := map_some hc
          obtain ⟨rfl, _⟩ := Prod.mk.inj hb
          unfold afieldAddr at hw
          split at hw
          · rename_i id' off' _ hp
            split at hw
            · split at hw
              · split at hw
                · cases hw
                · cases hw
                  refine lowR_ok hst h0 n b h1 m (by omega) id off' ?_
                  simp only [evalOp, List.getD_eq_getElem?_getD] at hp
                  cases hg : (st m).1[b]? with
                  | none => rw [hg] at hp; cases hp
                  | some y => rw [hg] at hp; simp only [Option.getD_some] at hp; rw [hp]
              · cases hw
            · cases hw
          · split at hw
            · split at hw
              · split at hw
                · cases hw
                · cases hw
              · cases hw
            · cases hw
          · cases hw
        · cases hc
      · cases h1
    · rw [e, eput_other hd] at hv
      exact lowR_ok hst h0 (n + 1) a hl m (by omega) id off hv

theorem steady_load (hst : ∀ i o, ops[i]? = some o → astep P (withTab T callF) ops o (st i).1 (st i).2 = some (st (i + 1))) (hd : ∀ (i j : Nat) (x y : Oper), i < j → ops[i]? = some x → ops[j]? = some y → ∀ d, x.dst = some d → y.dst ≠ some d)
    (hn : allNew P T ops = true) (h0 : ∀ (t id off : Nat), (st 0).1[t]? = some (AV.ptr id off) → id < (st 0).2.n) {o : Op} (ho : steadyL ops o = true) {i k : Nat} (hi : i ≤ ops.size) (hk : k ≤ ops.size) :
    ∃ t a, o = .load t a ∧ ∀ v, aload P t (evalOp (st i).1 a) (st i).2 = some v → aload P t (evalOp (st i).1 a) (st k).2 = some v := by
  unfold steadyL at ho
  split at ho
  rotate_left
  · cases ho
  rename_i t a
  refine ⟨t, .tmp a, rfl, fun v hv => ?_⟩
  have ti := told hst hd hn i hi
  have tk := told hst hd hn k hk
  unfold aload at hv ⊢
  split at hv
  · rename_i id off hp
    have hlt : id < (st 0).2.n := by
      refine lowR_ok hst h0 _ a ho i hi id off ?_
      simp only [evalOp, List.getD_eq_getElem?_getD] at hp
      cases hg : (st i).1[a]? with
      | none => rw [hg] at hp; cases hp
      | some y => rw [hg] at hp; simp only [Option.getD_some] at hp; rw [hp]
    rw [tk.low id hlt, ← ti.low id hlt]
    exact hv
  · rename_i g off hp
    unfold agload at hv ⊢
    split at hv
    · rename_i g' c hg
      have hlt : g < (st 0).2.n := by
        rcases Nat.lt_or_ge g (st 0).2.n with h1 | h1
        · exact h1
        · exact (ti.gv g g' c h1 hg).elim
      rw [tk.low g hlt, ← ti.low g hlt, hg]
      exact hv
    · cases hv
  · cases hv

def Li (listed : Array Bool) (i : Nat) : Prop := listed.getD i false = true

theorem li_set {listed : Array Bool} {i : Nat} (hi : i < listed.size) (j : Nat) : Li (listed.setIfInBounds i true) j ↔ j = i ∨ Li listed j := by
  unfold Li
  by_cases h : i = j
  · subst h
    simp [hi]
  · rw [getD_set_ne false h]
    constructor
    · exact .inr
    · rintro (h' | h')
      · exact absurd h'.symm h
      · exact h'

theorem anc_listed {s : Option (List Nat × List Nat)} (hc : DChk P T s ops) {listed : Array Bool} (hcl : ∀ j o, ops[j]? = some o → Li listed j → ∀ e ∈ o.after, Region.binds .any e = true → Li listed e.on) : ∀ (n j : Nat), j < n → (∀ o, ops[j]? = some o → ∀ e ∈ o.after, Region.binds .any e = true → Li listed e.on) → ∀ a, anc ops j a → Li listed a
  | 0, j, hj, _, _, _ => by omega
  | n + 1, j, hj, hr, a, ha => by
    obtain ⟨o, ho, e, he, hb, hon⟩ := before_spec ops j a ha
    have hl := hr o ho e he hb
    rcases hon with rfl | hon
    · exact hl
    · exact anc_listed hc hcl n e.on (by have := hc.edge j o ho e he hb; omega) (fun o' ho' => hcl e.on o' ho' hl) a hon

/-- What holds when some of a region's operations have run. -/
structure DI (P : Program) (B : Nat) (T : PTab) (ops : Array Oper) (st : Nat → List AV × AH) (φ : Nat → Loc) (h : AH) (w0 : World) (listed : Array Bool) (a : Act) (w : World) : Prop where
  sz : listed.size = ops.size
  closed : ∀ j o, ops[j]? = some o → Li listed j → ∀ e ∈ o.after, Region.binds .any e = true → Li listed e.on
  body : ∃ φ' env' k, env'.length = (st 0).1.length ∧ (∀ i o t, ops[i]? = some o → o.dst = some t → Li listed i → env'[t]? = (st (i + 1)).1[t]?) ∧
    (∀ t, (∀ i o, ops[i]? = some o → o.dst = some t → ¬ Li listed i) → env'[t]? = (st 0).1[t]?) ∧ k ≤ ops.size ∧
    (∀ i o, ops[i]? = some o → kindOf P T o.op = .write → (Li listed i ↔ i < k)) ∧
    ActR ((st k).2).ok φ' env' a ∧ Rel B φ' (st k).2 w ∧ Step φ h w0 φ' (st k).2 w

theorem looks_op {o : Oper} {x : Operand} (hx : x ∈ o.op.operands) {t : Nat} (e : x = .tmp t) : t ∈ o.looksAt ops := by
  subst e
  unfold Oper.looksAt
  apply List.mem_append_left
  rw [List.mem_filterMap]
  exact ⟨.tmp t, by simpa using hx, rfl⟩

theorem looks_guard {o : Oper} {j : Nat} {want : Bool} (hg : o.guard = some (j, want)) {d : Nat} (hd : (ops[j]?).bind (·.dst) = some d) : d ∈ o.looksAt ops := by
  unfold Oper.looksAt
  apply List.mem_append_right
  simp [hg, hd]

theorem aload_ext {t : TypeId} {x v : AV} {h h' : AH} (hl : aload P t x h = some v) (he : ∀ id o, h.get id = some o → h'.get id = some o) : aload P t x h' = some v := by
  unfold aload at *
  split at hl
  · rename_i id off
    split at hl
    · rename_i hg
      rw [he _ _ hg]; exact hl
    · cases hl
  · unfold agload at *
    split at hl
    · rename_i hg
      rw [he _ _ hg]; exact hl
    · cases hl
  · cases hl

theorem loadNew_read {x y : Oper} (h : loadNew T x y = true) : kindOf P T x.op = .read ∧ ((∃ t a, x.op = .load t a) ∨ readC T x.op = true) ∧ ((∃ e, y.op = .alloc e) ∨ ∃ t a, y.op = .box t a) := by
  unfold loadNew at h
  rw [Bool.and_eq_true, Bool.or_eq_true] at h
  obtain ⟨h1, h2⟩ := h
  have h3 : (∃ e, y.op = .alloc e) ∨ ∃ t a, y.op = .box t a := by
    unfold newB at h2
    split at h2
    · rename_i e h; exact .inl ⟨_, h⟩
    · rename_i e b h; exact .inr ⟨_, _, h⟩
    · cases h2
  rcases h1 with h1 | h1
  · unfold isLd at h1
    split at h1
    · rename_i t a h; exact ⟨by rw [h]; rfl, .inl ⟨_, _, h⟩, h3⟩
    · cases h1
  · obtain ⟨c, f, k, e, hc, hT⟩ := readC_ok h1
    exact ⟨by rw [e]; simp only [kindOf, kindCall, hc, hT], .inr h1, h3⟩

/-- A new block leaves what is there. -/
theorem new_ext {o : Oper} {env : List AV} {h : AH} {r : List AV × AH} (hs : astep P callF ops o env h = some r) (hn : (∃ e, o.op = .alloc e) ∨ ∃ t a, o.op = .box t a) : ∀ id q, h.get id = some q → r.2.get id = some q := by
  intro id q hg
  have push : ∀ (t : TypeId) (c : List AV), (anew t c h).2.get id = some q := fun t c => by
    unfold anew
    rw [AH.get_push_ne (by have := AH.get_lt hg; omega)]; exact hg
  obtain ⟨v, e, ⟨hw, ho⟩ | ⟨_, _, h1⟩⟩ := step_val hs
  · rcases hn with ⟨e, hn⟩ | ⟨t, a, hn⟩ <;> rw [hn] at ho <;> simp only [aop] at ho
    · split at ho
      · obtain ⟨c, hc, hb⟩ := map_some ho
        have := push e c
        rw [hb] at this; exact this
      · cases ho
    · obtain ⟨c, hc, hb⟩ := map_some ho
      have := push t c
      rw [hb] at this; exact this
  · rw [h1]; exact hg

/-! One that loads from a block to which a0 points, beside calls that leave what is there as it is. -/
theorem RootV.field {id0 : Nat} {x v : AV} {s : TypeId} {f : Nat} (h : RootV id0 x) (hw : afieldAddr P s x f = some v) : RootV id0 v := by
  unfold afieldAddr at hw
  rcases h with rfl | rfl | ⟨off, rfl⟩ | ⟨off, n, sz, rfl⟩
  · split at hw <;> first | (cases hw; done) | (rename_i e1 e2; cases e2)
  · split at hw <;> first | (cases hw; done) | (rename_i e1 e2; cases e2)
  · split at hw
    · rename_i h5
      cases h5
      split at hw
      · split at hw
        · split at hw
          · cases hw
          · cases hw; exact .inr (.inr (.inl ⟨_, rfl⟩))
        · cases hw
      · cases hw
    · rename_i h5; cases h5
    · cases hw
  · split at hw <;> first | (cases hw; done) | (rename_i e1 e2; cases e2)
theorem RootV.index {id0 : Nat} {x v y : AV} {s : TypeId} (h : RootV id0 x) (hw : aindexAddr P s x y = some v) : RootV id0 v := by
  unfold aindexAddr at hw
  rcases h with rfl | rfl | ⟨off, rfl⟩ | ⟨off, n, sz, rfl⟩
  · split at hw <;> first | (cases hw; done) | (rename_i e1 e2 e3; cases e2) | (rename_i e1 e2; cases e2) | (rename_i e1; cases e1)
  · split at hw <;> first | (cases hw; done) | (rename_i e1 e2 e3; cases e2) | (rename_i e1 e2; cases e2) | (rename_i e1; cases e1)
  · split at hw
    · rename_i h5
      cases h5
      split at hw
      · split at hw
        · cases hw; exact .inr (.inr (.inl ⟨_, rfl⟩))
        · cases hw
      · cases hw
    all_goals first | (cases hw; done) | (rename_i h5; cases h5)
  · split at hw
    · rename_i h5; cases h5
    · rename_i h5; cases h5
    · rename_i h5
      cases h5
      split at hw
      · split at hw
        · cases hw; exact .inr (.inr (.inl ⟨_, rfl⟩))
        · cases hw
      · cases hw
    · cases hw
theorem root_ok (hst : ∀ i o, ops[i]? = some o → astep P (withTab T callF) gops o (st i).1 (st i).2 = some (st (i + 1))) (hd : ∀ (i j : Nat) (x y : Oper), i < j → ops[i]? = some x → ops[j]? = some y → ∀ d, x.dst = some d → y.dst ≠ some d)
    {a0 id0 : Nat} (h0 : RootV id0 ((st 0).1.getD a0 .undef)) : ∀ (n a i : Nat), i ≤ ops.size → rootR ops a0 n a i = true → RootV id0 ((st i).1.getD a .undef)
  | 0, _, _, _, hr => by cases hr
  | n + 1, a, i, hi, hr => by
    rw [rootR, Bool.or_eq_true] at hr
    rcases hr with hr | hr
    · simp only [Bool.and_eq_true, beq_iff_eq, List.all_eq_true, Bool.not_eq_true', beq_eq_false_iff_ne] at hr
      obtain ⟨rfl, hr⟩ := hr
      have := st_keep hst (t := a) 0 i (by omega) fun j o h1 h2 ho hd' => hr o (by have := Array.mem_of_getElem? ho; simpa using this) hd'
      rw [Nat.zero_add] at this
      rw [List.getD_eq_getElem?_getD] at h0 ⊢
      rw [this]
      exact h0
    · rw [List.any_eq_true] at hr
      obtain ⟨j, hj, hx⟩ := hr
      rw [List.mem_range] at hj
      split at hx
      rotate_left
      · cases hx
      rename_i o' hx'
      rw [Bool.and_eq_true, beq_iff_eq] at hx
      obtain ⟨hxd, hx⟩ := hx
      obtain ⟨b, hop, hx⟩ : ∃ b, ((∃ s f, o'.op = .fieldAddr s (.tmp b) f) ∨ (∃ s f, o'.op = .indexAddr s (.tmp b) f) ∨ o'.op = .nilCheck (.tmp b) ∨ o'.op = .move (.tmp b) ∨ o'.op = .assign (.tmp b)) ∧ rootR ops a0 n b j = true := by
        split at hx
        · rename_i hop; exact ⟨_, .inl ⟨_, _, hop⟩, hx⟩
        · rename_i hop; exact ⟨_, .inr (.inl ⟨_, _, hop⟩), hx⟩
        · rename_i hop; exact ⟨_, .inr (.inr (.inl hop)), hx⟩
        · rename_i hop; exact ⟨_, .inr (.inr (.inr (.inl hop))), hx⟩
        · rename_i hop; exact ⟨_, .inr (.inr (.inr (.inr hop))), hx⟩
        · cases hx
      have hk : (st i).1[a]? = (st (j + 1)).1[a]? := by
        have := st_keep hst (t := a) (j + 1) (i - (j + 1)) (by omega) fun k o2 h1 h2 ho' => hd j k o' o2 (by omega) hx' ho' a hxd
        rwa [show j + 1 + (i - (j + 1)) = i by omega] at this
      have ih := root_ok hst hd h0 n b j (by omega) hx
      rw [List.getD_eq_getElem?_getD, hk]
      obtain ⟨v, e, hc⟩ := step_val (hst j o' hx')
      rw [e, hxd, eput_same]
      split
      rotate_left
      · exact .inl rfl
      rcases hc with ⟨_, hc⟩ | ⟨_, rfl, _⟩
      rotate_left
      · exact .inl rfl
      rcases hop with ⟨s, f, hop⟩ | ⟨s, f, hop⟩ | hop | hop | hop
      · rw [hop] at hc
        simp only [aop, evalOp] at hc
        obtain ⟨w, hw, hb⟩ := map_some hc
        obtain ⟨rfl, _⟩ := Prod.mk.inj hb
        exact ih.field hw
      · rw [hop] at hc
        simp only [aop] at hc
        rw [show evalOp (st j).1 (.tmp b) = (st j).1.getD b .undef from rfl] at hc
        obtain ⟨w, hw, hb⟩ := map_some hc
        obtain ⟨rfl, _⟩ := Prod.mk.inj hb
        exact ih.index hw
      · rw [hop] at hc
        simp only [aop, evalOp] at hc
        rcases ih with ih | ih | ⟨off, ih⟩ | ⟨off, n, sz, ih⟩
        · rw [ih] at hc; cases hc
        · rw [ih] at hc; cases hc
        · rw [ih] at hc; simp at hc; exact .inr (.inr (.inl ⟨off, by rw [← hc.1]; rfl⟩))
        · rw [ih] at hc; simp at hc; exact .inr (.inr (.inr ⟨off, n, sz, by rw [← hc.1]; rfl⟩))
      · rw [hop] at hc
        simp only [aop, evalOp] at hc
        obtain ⟨e1, _⟩ := Prod.mk.inj (Option.some.inj hc)
        subst e1
        exact ih
      · rw [hop] at hc
        simp only [aop, evalOp] at hc
        obtain ⟨e1, _⟩ := Prod.mk.inj (Option.some.inj hc)
        subst e1
        exact ih

theorem keep_step (hst : ∀ i o, ops[i]? = some o → astep P (withTab T (keepF callF)) ops o (st i).1 (st i).2 = some (st (i + 1))) (hd : ∀ (i j : Nat) (x y : Oper), i < j → ops[i]? = some x → ops[j]? = some y → ∀ d, x.dst = some d → y.dst ≠ some d)
    {bs : List Nat} {id : Nat} (hb : ∀ b ∈ bs, ∃ idb, RootV idb ((st 0).1.getD b .undef) ∧ idb ≠ id) (hn : allKeep P T bs ops = true) {m : Nat} {o : Oper} (ho : ops[m]? = some o) : ∀ q, (st m).2.get id = some q → (st (m + 1)).2.get id = some q := by
  unfold allKeep at hn
  rw [List.all_eq_true] at hn
  have h0 := hn m (by rw [List.mem_range]; exact lt_of_get ho)
  simp only [ho] at h0
  by_cases hw : kindOf P T o.op = .write
  · rw [hw] at h0
    have hb2 : keepW o.op = true ∨ rootS ops bs m o.op = true := by simpa using h0
    rcases hb2 with hb' | hb'
    · unfold keepW at hb'
      split at hb'
      · rename_i hop; exact new_ext (hst m o ho) (.inl ⟨_, hop⟩) id
      · rename_i hop; exact new_ext (hst m o ho) (.inr ⟨_, _, hop⟩) id
      · rename_i t' n' ps' hop
        obtain ⟨v, e, ⟨_, h1⟩ | ⟨_, rfl, h1⟩⟩ := step_val (hst m o ho)
        · rw [hop] at h1
          simp only [aop] at h1
          exact abuildSlice_keep h1 id
        · rw [h1]; exact fun q hq => hq
      · rename_i c hop
        split at hb'
        · rename_i f hc
          obtain ⟨v, e, ⟨_, h1⟩ | ⟨_, rfl, h1⟩⟩ := step_val (hst m o ho)
          · rw [hop] at h1
            simp only [aop, acall1, hc, evalOp, List.nil_append, List.append_nil, withTab] at h1
            have ht : T f = none := by
              rw [hop] at hw
              simp only [kindOf, kindCall, hc] at hw
              cases hT : T f with
              | none => rfl
              | some p => rw [hT] at hw; cases p <;> cases hw
            rw [ht] at h1
            exact (keepF_some h1).2.1 id
          · rw [h1]; exact fun q hq => hq
        · cases hb'
      · cases hb'
    · unfold rootS at hb'
      split at hb'
      rotate_left
      · cases hb'
      rename_i t p x hop
      rw [List.any_eq_true] at hb'
      obtain ⟨b, hbm, hr⟩ := hb'
      obtain ⟨idb, e0, hne⟩ := hb b hbm
      obtain ⟨v, e, ⟨_, h1⟩ | ⟨_, rfl, h1⟩⟩ := step_val (hst m o ho)
      · rw [hop] at h1
        simp only [aop] at h1
        rw [show evalOp (st m).1 (.tmp p) = (st m).1.getD p .undef from rfl] at h1
        generalize evalOp (st m).1 x = y at h1
        obtain ⟨h2, hs2, hq2⟩ := map_some h1
        have hq3 : h2 = (st (m + 1)).2 := (Prod.mk.inj hq2).2
        rw [← hq3]
        rcases root_ok hst hd e0 _ p m (by have := lt_of_get ho; omega) hr with e | e | ⟨off', e⟩ | ⟨off', n', sz', e⟩
        · rw [e] at hs2; cases hs2
        · rw [e] at hs2; cases hs2
        rotate_left
        · rw [e] at hs2; cases hs2
        · rw [e] at hs2
          simp only [astore] at hs2
          split at hs2
          · split at hs2
            · split at hs2
              · have e3 := Option.some.inj hs2
                intro q hq
                rw [← e3, AH.get_set_ne (Ne.symm hne)]; exact hq
              · cases hs2
            · cases hs2
          · cases hs2
      · rw [h1]; exact fun q hq => hq
  · rw [st_heap1 hst ho hw]; exact fun q hq => hq

theorem keep_told (hst : ∀ i o, ops[i]? = some o → astep P (withTab T (keepF callF)) ops o (st i).1 (st i).2 = some (st (i + 1))) (hd : ∀ (i j : Nat) (x y : Oper), i < j → ops[i]? = some x → ops[j]? = some y → ∀ d, x.dst = some d → y.dst ≠ some d)
    {bs : List Nat} {id : Nat} (hb : ∀ b ∈ bs, ∃ idb, RootV idb ((st 0).1.getD b .undef) ∧ idb ≠ id) (hn : allKeep P T bs ops = true) : ∀ m, m ≤ ops.size → ∀ q, (st 0).2.get id = some q → (st m).2.get id = some q
  | 0, _ => fun q hq => hq
  | m + 1, hm => fun q hq => keep_step hst hd hb hn (m := m) (Array.getElem?_eq_getElem (by omega)) q (keep_told hst hd hb hn m (by omega) q hq)

theorem keep_all (hst : ∀ i o, ops[i]? = some o → astep P (withTab T (keepF callF)) ops o (st i).1 (st i).2 = some (st (i + 1))) (hd : ∀ (i j : Nat) (x y : Oper), i < j → ops[i]? = some x → ops[j]? = some y → ∀ d, x.dst = some d → y.dst ≠ some d)
    (hn : allKeep P T [] ops = true) (i : Nat) : ∀ k, i ≤ k → k ≤ ops.size → Keep (st i).2 (st k).2
  | 0, h1, _ => by obtain rfl : i = 0 := by omega
                   exact Keep.refl _
  | k + 1, h1, h2 => by
    rcases Nat.lt_or_ge k i with h3 | h3
    · obtain rfl : i = k + 1 := by omega
      exact Keep.refl _
    · intro id q hq
      exact keep_step hst hd (bs := []) (id := id) (fun b hb => by cases hb) hn (m := k) (Array.getElem?_eq_getElem (by omega)) q (keep_all hst hd hn i k h3 (by omega) id q hq)

theorem root_load (hst : ∀ i o, ops[i]? = some o → astep P (withTab T (keepF callF)) ops o (st i).1 (st i).2 = some (st (i + 1))) (hd : ∀ (i j : Nat) (x y : Oper), i < j → ops[i]? = some x → ops[j]? = some y → ∀ d, x.dst = some d → y.dst ≠ some d)
    {bs : List Nat} (hn : allKeep P T bs ops = true) {as : List Nat} (h0 : ∀ a0 ∈ as, ∃ id, RootV id ((st 0).1.getD a0 .undef) ∧ (∀ b ∈ bs, ∃ idb, RootV idb ((st 0).1.getD b .undef) ∧ idb ≠ id) ∧ ((∀ id, RootV id ((st 0).1.getD a0 .undef)) ∨ ∃ o, (st 0).2.get id = some o)) {i k : Nat} {o : Op} (ho : rootL ops as i o = true) (hi : i ≤ ops.size) (hk : k ≤ ops.size) :
    ∃ t a, o = .load t a ∧ ∀ v, aload P t (evalOp (st i).1 a) (st i).2 = some v → aload P t (evalOp (st i).1 a) (st k).2 = some v := by
  unfold rootL at ho
  split at ho
  rotate_left
  · cases ho
  rename_i t a
  refine ⟨t, .tmp a, rfl, fun v hv => ?_⟩
  rw [List.any_eq_true] at ho
  obtain ⟨a0, ha0, ho⟩ := ho
  obtain ⟨id, e0, hb, hq⟩ := h0 a0 ha0
  simp only [evalOp] at hv ⊢
  rcases root_ok hst hd e0 _ a i hi ho with e | e | ⟨off', e⟩ | ⟨off', n', sz', e⟩
  · rw [e] at hv; cases hv
  · rw [e] at hv; cases hv
  rotate_left
  · rw [e] at hv; cases hv
  rcases hq with hq | ⟨q, hq⟩
  · exfalso
    rcases root_ok hst hd (hq (id + 1)) _ a i hi ho with e2 | e2 | ⟨off2, e2⟩ | ⟨off2, n2, sz2, e2⟩ <;> rw [e] at e2 <;> cases e2
  have ti := keep_told hst hd hb hn i hi q hq
  have tk := keep_told hst hd hb hn k hk q hq
  rw [e] at hv ⊢
  simp only [aload] at hv ⊢
  rw [tk, ← ti]; exact hv

/-- What a load finds, whichever of the two kinds the region is. -/
def SideHyp (P : Program) (T : PTab) (s : Option (List Nat × List Nat)) (ops : Array Oper) (st : Nat → List AV × AH) : Prop :=
  match s with
  | none => ∀ {o : Op} {i k : Nat}, allNew P T ops = true → steadyL ops o = true → i ≤ ops.size → k ≤ ops.size → ∃ t a, o = .load t a ∧ ∀ v, aload P t (evalOp (st i).1 a) (st i).2 = some v → aload P t (evalOp (st i).1 a) (st k).2 = some v
  | some r => (∀ {o : Op} {i k : Nat}, allKeep P T r.2 ops = true → rootL ops r.1 i o = true → i ≤ ops.size → k ≤ ops.size → ∃ t a, o = .load t a ∧ ∀ v, aload P t (evalOp (st i).1 a) (st i).2 = some v → aload P t (evalOp (st i).1 a) (st k).2 = some v) ∧
      (allKeep P T [] ops = true → ∀ i k, i ≤ k → k ≤ ops.size → Keep (st i).2 (st k).2)

/-- Is this the one that loads? -/
def sideL (P : Program) (T : PTab) (s : Option (List Nat × List Nat)) (ops : Array Oper) (i : Nat) (o : Op) : Prop :=
  match s with
  | none => allNew P T ops = true ∧ steadyL ops o = true
  | some r => allKeep P T r.2 ops = true ∧ (rootL ops r.1 i o || (r.2.isEmpty && readC T o)) = true

theorem side_split {s : Option (List Nat × List Nat)} {i j : Nat} {x y : Op} (h : sideOK P T s ops i x j y = true) : sideL P T s ops i x ∨ sideL P T s ops j y := by
  cases s with
  | none => simp only [sideOK, sideL, Bool.and_eq_true, Bool.or_eq_true] at h ⊢; rcases h with ⟨h1, h2 | h2⟩ <;> simp [h1, h2]
  | some r =>
    simp only [sideOK] at h
    rw [Bool.and_eq_true, Bool.or_eq_true] at h
    exact h.2.imp (fun h2 => ⟨h.1, h2⟩) fun h2 => ⟨h.1, h2⟩
theorem side_load {s : Option (List Nat × List Nat)} (hs : SideHyp P T s ops st) {i k : Nat} {o : Op} (h : sideL P T s ops i o) (hi : i ≤ ops.size) (hk : k ≤ ops.size) :
    (∃ t a, o = .load t a ∧ ∀ v, aload P t (evalOp (st i).1 a) (st i).2 = some v → aload P t (evalOp (st i).1 a) (st k).2 = some v) ∨ (readC T o = true ∧ ∀ i k, i ≤ k → k ≤ ops.size → Keep (st i).2 (st k).2) := by
  cases s with
  | none => exact .inl (hs h.1 h.2 hi hk)
  | some r =>
    obtain ⟨h1, h2⟩ := h
    rw [Bool.or_eq_true, Bool.and_eq_true, List.isEmpty_iff] at h2
    rcases h2 with h2 | ⟨h2, h3⟩
    · exact .inl (hs.1 h1 h2 hi hk)
    · rw [h2] at h1; exact .inr ⟨h3, hs.2 h1⟩
theorem side_read {s : Option (List Nat × List Nat)} {i : Nat} {o : Op} (h : sideL P T s ops i o) : kindOf P T o = .read := by
  cases s with
  | none =>
    have h := h.2
    unfold steadyL at h
    split at h
    · rfl
    · cases h
  | some a0 =>
    have h := h.2
    rw [Bool.or_eq_true, Bool.and_eq_true] at h
    rcases h with h | ⟨_, h⟩
    · unfold rootL at h
      split at h
      · rfl
      · cases h
    · obtain ⟨c, f, k, rfl, hc, hT⟩ := readC_ok h
      simp only [kindOf, kindCall, hc, hT]

/-- A load that finds the same in another heap. -/
theorem load_reads {o : Op} {env : List AV} {h h' : AH} (hl : ∃ t a, o = .load t a ∧ ∀ v, aload P t (evalOp env a) h = some v → aload P t (evalOp env a) h' = some v) :
    kindOf P T o = .read ∧ ∀ v, aop P (withTab T callF) env o h = some (v, h) → aop P (withTab T callF) env o h' = some (v, h') := by
  obtain ⟨t, a, rfl, hx⟩ := hl
  refine ⟨rfl, fun v hv => ?_⟩
  simp only [aop] at hv ⊢
  obtain ⟨_, e2⟩ := map_pair hv
  rw [hx _ e2]
  rfl

theorem step_again {o : Oper} {env env' : List AV} {h h' : AH} {r : List AV × AH} (hs : astep P (withTab T callF) ops o env h = some r) (hE : ∀ t ∈ o.looksAt ops, env'[t]? = env[t]?)
    (hh : h' = h ∨ kindOf P T o.op = .free ∨ (kindOf P T o.op = .read ∧ ∀ v, aop P (withTab T callF) env o.op h = some (v, h) → aop P (withTab T callF) env o.op h' = some (v, h'))) :
    ∃ v, r.1 = eput env o.dst v ∧ astep P (withTab T callF) ops o env' h' = some (eput env' o.dst v, if kindOf P T o.op = .write then r.2 else h') := by
  obtain ⟨v, e, hc⟩ := step_val hs
  have haw : awanted ops o env' = awanted ops o env := by
    unfold awanted
    cases hg : o.guard with
    | none => rfl
    | some g =>
      obtain ⟨j, want⟩ := g
      simp only []
      cases hd : (ops[j]?).bind (·.dst) with
      | none => rfl
      | some d => simp only []; rw [hE d (looks_guard hg hd)]
  have hop : ∀ g, aop P (withTab T callF) env' o.op g = aop P (withTab T callF) env o.op g := fun g => aop_congr o.op (fun x hx => by
    cases x with
    | tmp t => simp only [evalOp, List.getD]; rw [hE t (looks_op hx rfl)]
    | const v => rfl
    | global v => rfl
    | func v => rfl) g
  refine ⟨v, e, ?_⟩
  unfold astep
  rcases hc with ⟨hw, ho⟩ | ⟨hw, rfl, hr⟩
  · rw [haw, hw]
    simp only []
    rw [hop]
    rcases hh with rfl | hf | ⟨hk, hx⟩
    · by_cases hf : kindOf P T o.op = .write
      · rw [if_pos hf, ho]; rfl
      · rw [if_neg hf, ho]
        have : r.2 = h' := by
          cases hk : kindOf P T o.op with
          | free => exact (kind_free hk ho).1
          | read => exact kind_read hk ho
          | write => exact absurd hk hf
        simp only [Option.map_some]
        rw [this]
    · rw [if_neg (by rw [hf]; intro hh; cases hh), (kind_free hf ho).2 h']
      rfl
    · rw [if_neg (by rw [hk]; intro hh; cases hh)]
      have e1 := kind_read hk ho
      rw [e1] at ho
      rw [hx _ ho]
      rfl
  · rw [haw, hw]
    simp only []
    by_cases hf : kindOf P T o.op = .write
    · rw [if_pos hf]
      rcases hh with rfl | hh | ⟨hk, hx⟩
      · rw [hr]
      · rw [hh] at hf; cases hf
      · rw [hk] at hf; cases hf
    · rw [if_neg hf]

end
/-! M18 -/
section
set_option linter.unusedSimpArgs false
set_option linter.unusedVariables false
open Go Go.RowKit

variable {P : Program} {B : Nat} {φ : Nat → Loc} {h : AH} {w w0 : World} {T : PTab} {ops : Array Oper} {callF : CallF} {st : Nat → List AV × AH}

theorem ready_unlisted {j : Nat} {listed : Array Bool} (hr : j ∈ Region.ready .any ops listed) : j < listed.size ∧ ¬ Li listed j := by
  have h0 := (mem_ready.1 hr).1
  have hj : j < listed.size := by
    rcases Nat.lt_or_ge j listed.size with h' | h'
    · exact h'
    · rw [Array.getD_eq_getD_getElem?, Array.getElem?_eq_none h'] at h0; cases h0
  refine ⟨hj, fun hl => ?_⟩
  unfold Li at hl
  rw [Array.getD_eq_getD_getElem?, Array.getElem?_eq_getElem hj] at h0 hl
  simp only [Option.getD_some] at h0 hl
  rw [h0] at hl
  cases hl

theorem all_listed {s : Option (List Nat × List Nat)} (hc : DChk P T s ops) {listed : Array Bool} (hr : Region.ready .any ops listed = []) (hs : listed.size = ops.size) : ∀ n j, j < n → j < ops.size → Li listed j
  | 0, j, hj, _ => by omega
  | n + 1, j, hj, hlt => by
    cases hd : listed.getD j false with
    | true => exact hd
    | false =>
      have ho : ops[j]? = some ops[j] := Array.getElem?_eq_getElem hlt
      have : j ∈ Region.ready .any ops listed := mem_ready.2 ⟨by
        rw [Array.getD_eq_getD_getElem?, Array.getElem?_eq_getElem (by omega : j < listed.size)] at hd ⊢
        exact hd, _, ho, fun e he hb => all_listed hc hr hs n e.on (by have := hc.edge j _ ho e he hb; omega) (by have := hc.edge j _ ho e he hb; omega)⟩
      rw [hr] at this
      cases this

theorem count_set {listed : Array Bool} {i : Nat} (hi : i < listed.size) (hn : ¬ Li listed i) {n : Nat} (hc : listed.toList.count false ≤ n + 1) : (listed.setIfInBounds i true).toList.count false ≤ n := by
  have hv : listed[i] = false := by
    unfold Li at hn
    rw [Array.getD_eq_getD_getElem?, Array.getElem?_eq_getElem hi] at hn
    simpa using hn
  rw [Array.toList_setIfInBounds, List.count_set (by simpa using hi)]
  simp only [Array.getElem_toList, hv]
  have hc' : Array.count false listed ≤ n + 1 := by simpa using hc
  simp
  omega

theorem nowriter_keep (hst : ∀ i o, ops[i]? = some o → astep P (withTab T callF) ops o (st i).1 (st i).2 = some (st (i + 1))) {t m' : Nat} (hs : m' ≤ ops.size) (hn : ∀ (j : Nat) (o : Oper), j < m' → ops[j]? = some o → o.dst ≠ some t) : (st m').1[t]? = (st 0).1[t]? := by
  have := st_keep hst (t := t) 0 m' (by omega) fun j o h1 h2 ho => hn j o (by omega) ho
  rwa [show 0 + m' = m' by omega] at this

theorem heap_same (hst : ∀ i o, ops[i]? = some o → astep P (withTab T callF) ops o (st i).1 (st i).2 = some (st (i + 1))) {m m' : Nat} (hm : m ≤ m') (hs : m' ≤ ops.size) (hn : ∀ j o, m ≤ j → j < m' → ops[j]? = some o → kindOf P T o.op ≠ .write) : (st m').2 = (st m).2 := by
  have := st_heap hst m (m' - m) (by omega) fun j o h1 h2 ho => hn j o h1 (by omega) ho
  rwa [show m + (m' - m) = m' by omega] at this

theorem anc_of_write {s : Option (List Nat × List Nat)} (hc : DChk P T s ops) {i j : Nat} {x y : Oper} (hij : i < j) (hx : ops[i]? = some x) (hy : ops[j]? = some y) (hk : kindOf P T x.op = .write ∧ kindOf P T y.op ≠ .free) (hs : ¬ sideL P T s ops j y.op) : anc ops j i := by
  rcases hc.pair i j x y hij hx hy with h1 | ⟨_, _, (h1 | ⟨h1, h2⟩) | h1⟩
  · exact h1
  · exfalso
    have := (loadNew_read (P := P) (T := T) h1).1
    rw [hk.1] at this; cases this
  · exfalso
    unfold kindsApart at h1 h2
    cases e1 : kindOf P T x.op <;> cases e2 : kindOf P T y.op <;> simp_all
  · rcases side_split h1 with h2 | h2
    · exfalso
      have := side_read h2
      rw [hk.1] at this; cases this
    · exact absurd h2 hs
theorem not_side {s : Option (List Nat × List Nat)} {i : Nat} {o : Op} (h : kindOf P T o = .write) : ¬ sideL P T s ops i o := fun h2 => by
  have := side_read h2
  rw [h] at this; cases this
theorem anc_of_writeB {s : Option (List Nat × List Nat)} (hc : DChk P T s ops) {i j : Nat} {x y : Oper} (hij : i < j) (hx : ops[i]? = some x) (hy : ops[j]? = some y) (hk : kindOf P T y.op = .write ∧ kindOf P T x.op ≠ .free) (hs : ¬ sideL P T s ops i x.op) : anc ops j i ∨ loadNew T x y = true := by
  rcases hc.pair i j x y hij hx hy with h1 | ⟨_, _, (h1 | ⟨h1, h2⟩) | h1⟩
  · exact .inl h1
  · exact .inr h1
  · exfalso
    unfold kindsApart at h1 h2
    cases e1 : kindOf P T x.op <;> cases e2 : kindOf P T y.op <;> simp_all
  · rcases side_split h1 with h2 | h2
    · exact absurd h2 hs
    · exfalso
      have := side_read h2
      rw [hk.1] at this; cases this

theorem named_ok {N : Nat → Prop} {x : AV} {v : Value} (h : VR N φ x v) {id : Nat} (hx : hidM x = some id) : N id := by
  cases h <;> simp only [hidM] at hx <;> first | (cases hx; done) | (cases hx; assumption)
theorem named_val {v : Value} {id : Nat} (hx : hidM (ofValue v) = some id) : False := by
  cases v <;> simp [ofValue, ofCell, hidM] at hx
/-- A call that reads, made elsewhere in the text's order. -/
theorem call_reads (hL : PTabMono T) {o : Op} (h1 : readC T o = true) {i k : Nat} {env' : List AV} (hE : ∀ x ∈ o.operands, ∀ t, x = .tmp t → env'[t]? = (st i).1[t]?) {a : Act} (he : ActR (st k).2.ok φ env' a)
    (keep : ∀ i k, i ≤ k → k ≤ ops.size → Keep (st i).2 (st k).2) (hi : i ≤ ops.size) (hk : k ≤ ops.size) :
    kindOf P T o = .read ∧ ∀ v, aop P (withTab T callF) (st i).1 o (st i).2 = some (v, (st i).2) → aop P (withTab T callF) (st i).1 o (st k).2 = some (v, (st k).2) := by
  obtain ⟨c, f, rk, rfl, hc, hT⟩ := readC_ok h1
  refine ⟨by simp only [kindOf, kindCall, hc, hT], fun v hv => ?_⟩
  simp only [aop, acall1, hc, evalOp, List.nil_append, List.append_nil, withTab, hT, PK.run] at hv ⊢
  obtain ⟨_, e2⟩ := map_pair hv
  rw [hL f rk hT _ _ (st k).2 v e2 fun x hx id hid q hq => ?_]
  · rfl
  obtain ⟨y, hy, rfl⟩ := List.mem_map.1 hx
  rcases Nat.le_total i k with h | h
  · exact keep i k h hk id q hq
  · have hv : ∃ q', (st k).2.get id = some q' := by
      cases y with
      | tmp t =>
        have e1 := hE (.tmp t) (by simp only [Op.operands]; unfold Call.operands; rw [hc]; simpa using hy) t rfl
        simp only [evalOp, List.getD_eq_getElem?_getD] at hid
        rw [← e1] at hid
        cases hx' : env'[t]? with
        | none => rw [hx'] at hid; cases hid
        | some z =>
          rw [hx'] at hid
          have hlt : t < env'.length := by
            rcases Nat.lt_or_ge t env'.length with h1 | h1
            · exact h1
            · rw [List.getElem?_eq_none h1] at hx'; cases hx'
          have hlen : env'.length = a.tmps.toList.length := he.1.1
          exact named_ok (he.1.2 t _ _ hx' (List.getElem?_eq_getElem (by rw [← hlen]; exact hlt))) hid
      | const w => exact (named_val hid).elim
      | global w => cases hid
      | func w => cases hid
    obtain ⟨q', hq'⟩ := hv
    have := keep k i h hi id q' hq'
    rw [hq] at this; cases this; exact hq'

theorem heap_ext (hst : ∀ i o, ops[i]? = some o → astep P (withTab T callF) ops o (st i).1 (st i).2 = some (st (i + 1))) (m : Nat) : ∀ d, m + d ≤ ops.size → (∀ j o, m ≤ j → j < m + d → ops[j]? = some o → kindOf P T o.op = .write → ((∃ e, o.op = .alloc e) ∨ ∃ t a, o.op = .box t a)) → ∀ id q, (st m).2.get id = some q → (st (m + d)).2.get id = some q
  | 0, _, _, _, _, h => h
  | d + 1, hd, hn, id, q, h => by
    have hk : ops[m + d]? = some ops[m + d] := Array.getElem?_eq_getElem (by omega)
    have h1 := heap_ext hst m d (by omega) (fun j o h1 h2 => hn j o h1 (by omega)) id q h
    have : m + (d + 1) = m + d + 1 := by omega
    rw [this]
    by_cases hw : kindOf P T (ops[m + d]).op = .write
    · exact new_ext (hst (m + d) _ hk) (hn (m + d) _ (by omega) (by omega) hk hw) id q h1
    · rw [st_heap1 hst hk hw]; exact h1

section
variable {sd : Option (List Nat × List Nat)} (hc : DChk P T sd ops) (hst : ∀ i o, ops[i]? = some o → astep P (withTab T callF) ops o (st i).1 (st i).2 = some (st (i + 1)))
include hc hst

theorem writer_keep {t m m' : Nat} {x : Oper} (hx : ops[m]? = some x) (hd : x.dst = some t) (hm : m < m') (hs : m' ≤ ops.size) : (st m').1[t]? = (st (m + 1)).1[t]? := by
  have := st_keep hst (t := t) (m + 1) (m' - (m + 1)) (by omega) fun j o h1 h2 ho => hc.dst m j x o (by omega) hx ho t hd
  rwa [show m + 1 + (m' - (m + 1)) = m' by omega] at this

theorem di_end {listed : Array Bool} {a : Act} (di : DI P B T ops st φ h w0 listed a w) (hall : ∀ j, j < ops.size → Li listed j) : Post B φ h w0 (st ops.size).1 (st ops.size).2 a w := by
  obtain ⟨φ', env', k, hlen, hhi, hlo, hk, hwr, he, r, s⟩ := di.body
  have hheap : (st ops.size).2 = (st k).2 := heap_same hst hk (Nat.le_refl _) fun j o h1 h2 ho hw => by
    have := (hwr j o ho hw).1 (hall j h2)
    omega
  have henv : env' = (st ops.size).1 := by
    apply List.ext_getElem?
    intro t
    by_cases hw : ∃ (j : Nat) (o : Oper), ops[j]? = some o ∧ o.dst = some t
    · obtain ⟨j, o, ho, hd⟩ := hw
      rw [hhi j o t ho hd (hall j (lt_of_get ho)), writer_keep hc hst ho hd (lt_of_get ho) (Nat.le_refl _)]
    · have hn : ∀ (j : Nat) (o : Oper), ops[j]? = some o → o.dst ≠ some t := fun j o ho hd => hw ⟨j, o, ho, hd⟩
      rw [hlo t fun i o ho hd => absurd hd (hn i o ho), nowriter_keep hst (Nat.le_refl _) fun j o _ ho => hn j o ho]
  subst henv
  rw [hheap]
  exact ⟨φ', he, r, s⟩

theorem di_step (hL : PTabMono T) (hl0 : SideHyp P T sd ops st) (hC : CallOK P B (withTab T callF)) {Q : Exit → Act → World → Prop} {i : Nat} {listed : Array Bool} {a : Act} (di : DI P B T ops st φ h w0 listed a w) (hr : i ∈ Region.ready .any ops listed) {K : Act → World → Prop}
    (hn : ∀ a' w', DI P B T ops st φ h w0 (listed.setIfInBounds i true) a' w' → K a' w') : wpOp P ops Q i K a w := by
  obtain ⟨hsz, hun⟩ := ready_unlisted hr
  obtain ⟨_, o, ho, hedges⟩ := mem_ready.1 hr
  have hlt := lt_of_get ho
  obtain ⟨φ', env', k, hlen, hhi, hlo, hk, hwr, he, r, s⟩ := di.body
  have hanc : ∀ a, anc ops i a → Li listed a := anc_listed hc di.closed (i + 1) i (Nat.lt_succ_self i) fun o' ho' => by rw [ho] at ho'; cases ho'; exact hedges
  have hdesc : ∀ j, Li listed j → ¬ anc ops j i := fun j hj ha => hun (anc_listed hc di.closed (j + 1) j (Nat.lt_succ_self j) (fun o' ho' => di.closed j o' ho' hj) i ha)
  -- what the operation looks at
  have hE : ∀ t ∈ o.looksAt ops, env'[t]? = (st i).1[t]? := by
    intro t ht
    by_cases hw : ∃ (j : Nat) (x : Oper), j < i ∧ ops[j]? = some x ∧ x.dst = some t
    · obtain ⟨j, x, hji, hx, hd⟩ := hw
      have hl : Li listed j := by
        rcases hc.pair j i x o hji hx ho with h1 | ⟨h1, _⟩
        · exact hanc j h1
        · simp only [quiet, hd, Bool.not_eq_true'] at h1
          have : (o.looksAt ops).contains t = true := by simpa using ht
          rw [this] at h1; cases h1
      rw [hhi j x t hx hd hl, writer_keep hc hst hx hd hji (by omega)]
    · have hn' : ∀ (j : Nat) (x : Oper), j < i → ops[j]? = some x → x.dst ≠ some t := fun j x hji hx hd => hw ⟨j, x, hji, hx, hd⟩
      rw [nowriter_keep hst (by omega) hn']
      refine hlo t fun j x hx hd hl => ?_
      rcases Nat.lt_trichotomy j i with h1 | h1 | h1
      · exact hn' j x h1 hx hd
      · subst h1; exact hun hl
      · rcases hc.pair i j o x h1 ho hx with h2 | ⟨_, h2, _⟩
        · exact hdesc j hl h2
        · simp only [quiet, hd, Bool.not_eq_true'] at h2
          have : (o.looksAt ops).contains t = true := by simpa using ht
          rw [this] at h2; cases h2
  -- the heap that it finds
  have hH : (st k).2 = (st i).2 ∨ kindOf P T o.op = .free ∨ (kindOf P T o.op = .read ∧ ∀ v, aop P (withTab T callF) (st i).1 o.op (st i).2 = some (v, (st i).2) → aop P (withTab T callF) (st i).1 o.op (st k).2 = some (v, (st k).2)) := by
    by_cases hsl : sideL P T sd ops i o.op
    · rcases side_load hl0 hsl (by omega) hk with h1 | ⟨h1, h2⟩
      · exact .inr (.inr (load_reads h1))
      · exact .inr (.inr (call_reads hL h1 (fun x hx t ht => hE t (looks_op hx ht)) he h2 (by omega) hk))
    by_cases hf : kindOf P T o.op = .free
    · exact .inr (.inl hf)
    rcases Nat.le_total k i with hki | hik
    · left
      refine (heap_same hst hki (by omega) fun j x h1 h2 hx hw => ?_).symm
      have := (hwr j x hx hw).1 (hanc j (anc_of_write hc h2 hx ho ⟨hw, hf⟩ hsl))
      omega
    · have hln : ∀ j x, i ≤ j → j < k → ops[j]? = some x → kindOf P T x.op = .write → loadNew T o x = true := fun j x h1 h2 hx hw => by
        have hl := (hwr j x hx hw).2 h2
        rcases Nat.lt_or_ge i j with h3 | h3
        · rcases anc_of_writeB hc h3 ho hx ⟨hw, hf⟩ hsl with h4 | h4
          · exact absurd h4 (hdesc j hl)
          · exact h4
        · have : j = i := by omega
          subst this
          exact absurd hl hun
      by_cases hld : ∃ t a, o.op = .load t a
      · right; right
        obtain ⟨t, a, hop⟩ := hld
        refine load_reads ⟨t, a, hop, fun v hv => aload_ext hv fun id q hg => ?_⟩
        have := heap_ext hst i (k - i) (by omega) (fun j x h1 h2 hx hw => (loadNew_read (P := P) (T := T) (hln j x h1 (by omega) hx hw)).2.2) id q hg
        rwa [show i + (k - i) = k by omega] at this
      by_cases hrc : readC T o.op = true
      · right; right
        obtain ⟨c, f, rk, hop, hcal, hT⟩ := readC_ok hrc
        refine ⟨by rw [hop]; simp only [kindOf, kindCall, hcal, hT], fun v hv => ?_⟩
        rw [hop] at hv ⊢
        simp only [aop, acall1, hcal, evalOp, List.nil_append, List.append_nil, withTab, hT, PK.run] at hv ⊢
        obtain ⟨_, e2⟩ := map_pair hv
        rw [hL f rk hT _ _ (st k).2 v e2 fun x hx id hid q hq => ?_]
        · rfl
        have := heap_ext hst i (k - i) (by omega) (fun j x h1 h2 hx hw => (loadNew_read (P := P) (T := T) (hln j x h1 (by omega) hx hw)).2.2) id q hq
        rwa [show i + (k - i) = k by omega] at this
      · left
        refine heap_same hst hik hk fun j x h1 h2 hx hw => ?_
        exact (loadNew_read (P := P) (T := T) (hln j x h1 h2 hx hw)).2.1.elim hld hrc
  obtain ⟨v, hv, hs⟩ := step_again (hst i o ho) hE hH
  refine step_sound hC ho hs r he fun a' w' hp => hn a' w' ?_
  obtain ⟨φ'', he', r', s'⟩ := hp
  have hli := li_set (listed := listed) hsz
  refine ⟨by rw [Array.size_setIfInBounds]; exact di.sz, fun j x hx hl e hee hb => ?_, ?_⟩
  · rw [hli]
    rcases (hli j).1 hl with rfl | hl'
    · rw [ho] at hx; cases hx
      exact .inr (hedges e hee hb)
    · exact .inr (di.closed j x hx hl' e hee hb)
  · have hilen : (st i).1.length = env'.length := by rw [hlen, st_length hst i (by omega)]
    by_cases hw : kindOf P T o.op = .write
    · -- a writer: all writers ahead of it have run, none behind it
      rw [if_pos hw] at he' r' s'
      refine ⟨φ'', eput env' o.dst v, i + 1, by rw [eput_length, hlen], fun j x t hx hd hl => ?_, fun t hn' => ?_, by omega, fun j x hx hwx => ?_, he', r', s.trans s'⟩
      · rcases (hli j).1 hl with rfl | hl'
        · rw [ho] at hx; cases hx
          rw [hv, hd, eput_same, eput_same, hilen]
        · by_cases hji : j = i
          · subst hji; exact absurd hl' hun
          · rw [eput_other, hhi j x t hx hd hl']
            intro hd'
            rcases Nat.lt_or_gt_of_ne hji with h1 | h1
            · exact hc.dst j i x o h1 hx ho t hd hd'
            · exact hc.dst i j o x h1 ho hx t hd' hd
      · rw [eput_other (fun hd => hn' i o ho hd ((hli i).2 (.inl rfl)))]
        exact hlo t fun j x hx hd hl => hn' j x hx hd ((hli j).2 (.inr hl))
      · rw [hli]
        constructor
        · rintro (rfl | hl)
          · omega
          · rcases Nat.lt_or_ge i j with h1 | h1
            · exact absurd (anc_of_write hc h1 ho hx ⟨hw, by rw [hwx]; intro e; cases e⟩ (not_side hwx)) (hdesc j hl)
            · omega
        · intro hj
          rcases Nat.lt_or_ge j i with h1 | h1
          · exact .inr (hanc j (anc_of_write hc h1 hx ho ⟨hwx, by rw [hw]; intro e; cases e⟩ (not_side hw)))
          · exact .inl (by omega)
    · -- one that leaves all memory as it is
      rw [if_neg hw] at he' r' s'
      refine ⟨φ'', eput env' o.dst v, k, by rw [eput_length, hlen], fun j x t hx hd hl => ?_, fun t hn' => ?_, hk, fun j x hx hwx => ?_, he', r', s.trans s'⟩
      · rcases (hli j).1 hl with rfl | hl'
        · rw [ho] at hx; cases hx
          rw [hv, hd, eput_same, eput_same, hilen]
        · by_cases hji : j = i
          · subst hji; exact absurd hl' hun
          · rw [eput_other, hhi j x t hx hd hl']
            intro hd'
            rcases Nat.lt_or_gt_of_ne hji with h1 | h1
            · exact hc.dst j i x o h1 hx ho t hd hd'
            · exact hc.dst i j o x h1 ho hx t hd' hd
      · rw [eput_other (fun hd => hn' i o ho hd ((hli i).2 (.inl rfl)))]
        exact hlo t fun j x hx hd hl => hn' j x hx hd ((hli j).2 (.inr hl))
      · rw [hli]
        constructor
        · rintro (rfl | hl)
          · rw [ho] at hx; cases hx; exact absurd hwx hw
          · exact (hwr j x hx hwx).1 hl
        · intro hj
          exact .inr ((hwr j x hx hwx).2 hj)

theorem drawn_any (hL : PTabMono T) (hl0 : SideHyp P T sd ops st) (hC : CallOK P B (withTab T callF)) {Q : Exit → Act → World → Prop} (hQ : ∀ a' w', Post B φ h w0 (st ops.size).1 (st ops.size).2 a' w' → Q .normal a' w') :
    ∀ (fuel : Nat) (listed : Array Bool) (a : Act) (w : World), listed.toList.count false ≤ fuel → DI P B T ops st φ h w0 listed a w → wpAny P .any ops Q fuel listed a w
  | 0, listed, a, w, hf, di => by
    have hall : ∀ j, j < ops.size → Li listed j := fun j hj => by
      have hlt : j < listed.size := by rw [di.sz]; exact hj
      have h0 : listed.toList.count false = 0 := by omega
      rw [List.count_eq_zero] at h0
      have : listed[j] ≠ false := fun e => h0 (by rw [← e]; simp)
      unfold Li
      rw [Array.getD_eq_getD_getElem?, Array.getElem?_eq_getElem hlt]
      simpa using this
    refine ⟨?_, hQ _ _ (di_end hc hst di hall)⟩
    apply List.eq_nil_iff_forall_not_mem.2
    intro j hj
    obtain ⟨h1, h2⟩ := ready_unlisted hj
    exact h2 (hall j (by rw [← di.sz]; exact h1))
  | fuel + 1, listed, a, w, hf, di => by
    refine ⟨fun hr => hQ _ _ (di_end hc hst di fun j hj => all_listed hc hr di.sz (j + 1) j (by omega) hj), fun i hi => ?_⟩
    obtain ⟨h1, h2⟩ := ready_unlisted hi
    exact di_step hc hst hL hl0 hC di hi fun a' w' di' => drawn_any hL hl0 hC hQ fuel _ a' w' (count_set h1 h2 hf) di'
end

theorem ptr_ok {env : List AV} {a : Act} (he : ActR h.ok φ env a) {t id off : Nat} (hv : env[t]? = some (AV.ptr id off)) : h.ok id := by
  have hlen := he.1.1
  have hlt : t < env.length := by
    rcases Nat.lt_or_ge t env.length with h1 | h1
    · exact h1
    · rw [List.getElem?_eq_none h1] at hv; cases hv
  have hv' := he.1.2 t _ _ hv (List.getElem?_eq_getElem (by omega))
  generalize a.tmps.toList[t] = u at hv'
  cases hv' with
  | ptr _ _ hn => exact hn

theorem keepF_ok (hC : CallOK P B callF) : CallOK P B (keepF callF) := fun f args h v h' hr => hC f args h v h' (keepF_some hr).1

theorem drawn_core (hm : P.follows .mixedOrders = true) (hT : PTabOK P B T) (hL : PTabMono T) (hC : CallOK P B callF) {s : Option (List Nat × List Nat)} {ops : Array Oper} {env env' : List AV} {h h' : AH} (hs : aops P (withTab T callF) ops ops.toList env h = some (env', h')) (hd : dOKx P T s ops = true)
    (hside : ∀ st : Nat → List AV × AH, st 0 = (env, h) → (∀ i o, ops[i]? = some o → astep P (withTab T callF) ops o (st i).1 (st i).2 = some (st (i + 1))) → SideHyp P T s ops st)
    {φ : Nat → Loc} {a : Act} {w : World} {Q : Exit → Act → World → Prop} {id : Nat} (r : Rel B φ h w) (he : ActR h.ok φ env a) (hn : ∀ a' w', Post B φ h w env' h' a' w' → Q .normal a' w') : (Code.region id ops true).wp P Q a w := by
  have hc := dchk hd
  obtain ⟨st, e1, e2, e3⟩ := run_states ops.toList 0 env h (env', h') rfl hs
  have e2 := e2 (Nat.zero_le _)
  refine wp_region_any hm ?_
  refine drawn_any (φ := φ) (h := h) (w0 := w) hc (fun i o ho => e3 i o (Nat.zero_le _) ho) hL (hside st e1 fun i o ho => e3 i o (Nat.zero_le _) ho) (withTab_ok hT hC) (fun a' w' hp => hn a' w' (by rw [e2] at hp; exact hp)) _ _ _ _ (by simp) ⟨by simp, fun j o ho hl => ?_, φ, env, 0, by rw [e1], fun i o t ho hd' hl => ?_, fun t _ => by rw [e1], Nat.zero_le _, fun i o ho hw => ?_, by rw [e1]; exact he, by rw [e1]; exact r.drew _, by rw [e1]; exact Step.drew φ h w _ (by first | exact Nat.le_refl _ | exact Nat.le_succ _ | (simp; done) | omega)⟩
  · exfalso
    unfold Li at hl
    rw [Array.getD_eq_getD_getElem?] at hl
    by_cases hj : j < ops.size <;> simp [hj] at hl
  · exfalso
    unfold Li at hl
    rw [Array.getD_eq_getD_getElem?] at hl
    by_cases hj : i < ops.size <;> simp [hj] at hl
  · constructor
    · intro hl
      exfalso
      unfold Li at hl
      rw [Array.getD_eq_getD_getElem?] at hl
      by_cases hj : i < ops.size <;> simp [hj] at hl
    · intro hl; omega

end
/-! M18k -/
section
set_option linter.unusedSimpArgs false
set_option linter.unusedVariables false
open Go Go.RowKit

variable {P : Program} {B : Nat} {φ : Nat → Loc} {h : AH} {w w0 : World} {T : PTab} {ops : Array Oper} {callF : CallF} {st : Nat → List AV × AH}

/-! ### What an object holds -/
def AO.each (p : AV → Prop) : AO → Prop
  | .cells c _ _ _ => ∀ x ∈ c, p x
  | .map es _ => ∀ a ∈ es, p a.1 ∧ p a.2.1
  | .gvar _ c => ∀ x ∈ c, p x
  | _ => True
theorem Ids.mono {p q : Nat → Prop} (hpq : ∀ id, p id → q id) {x : AV} (h : Ids p x) : Ids q x := by
  induction h with
  | int k m => exact .int k m
  | bool b => exact .bool b
  | str l => exact .str l
  | val v => exact .val v
  | ptr id off h => exact .ptr id off (hpq _ h)
  | sl id off len esz h => exact .sl id off len esz (hpq _ h)
  | map id h => exact .map id (hpq _ h)
  | iface t x _ ih => exact .iface t x ih
  | agg xs _ ih => exact .agg xs ih
  | tup xs _ ih => exact .tup xs ih
  | func fn xs ys _ _ ih ih' => exact .func fn xs ys ih ih'
  | any => exact .any
theorem Ids.and {p q : Nat → Prop} {x : AV} (h : Ids p x) : Ids q x → Ids (fun id => p id ∧ q id) x := by
  induction h with
  | int k m => exact fun _ => .int k m
  | bool b => exact fun _ => .bool b
  | str l => exact fun _ => .str l
  | val v => exact fun _ => .val v
  | ptr id off h => intro hq; cases hq with | ptr _ _ k => exact .ptr id off ⟨h, k⟩
  | sl id off len esz h => intro hq; cases hq with | sl _ _ _ _ k => exact .sl id off len esz ⟨h, k⟩
  | map id h => intro hq; cases hq with | map _ k => exact .map id ⟨h, k⟩
  | iface t x _ ih => intro hq; cases hq with | iface _ _ k => exact .iface t x (ih k)
  | agg xs _ ih => intro hq; cases hq with | agg _ k => exact .agg xs fun i x hx => ih i x hx (k i x hx)
  | tup xs _ ih => intro hq; cases hq with | tup _ k => exact .tup xs fun i x hx => ih i x hx (k i x hx)
  | func fn xs ys _ _ ih ih' => intro hq; cases hq with | func _ _ _ k k' => exact .func fn xs ys (fun i x hx => ih i x hx (k i x hx)) fun i x hx => ih' i x hx (k' i x hx)
  | any => exact fun _ => .any
theorem AO.each.mono {p q : AV → Prop} (hpq : ∀ x, p x → q x) {o : AO} (h : o.each p) : o.each q := by
  cases o <;> first | trivial | exact fun x hx => hpq x (h x hx) | exact fun a ha => ⟨hpq _ (h a ha).1, hpq _ (h a ha).2⟩
def Closed (h : AH) : Prop := ∀ id o, h.get id = some o → o.each (Ids h.ok)
theorem ObjR.ids {N : Nat → Prop} {φ : Nat → Loc} {loc : Loc} {o : AO} {r : Option Obj} (h : ObjR N φ loc o r) : o.each (Ids N) := by
  cases o with
  | cells c own fz ty =>
    obtain ⟨C, e, lo, hi, _, _, _, h4, _⟩ := h
    intro x hx
    obtain ⟨i, hi⟩ := List.mem_iff_getElem?.1 hx
    obtain ⟨v, _, hv⟩ := h4 i x hi
    exact Ids.of_VR hv
  | map es clock =>
    obtain ⟨es', _, h2, h3⟩ := h
    intro a ha
    obtain ⟨i, hi⟩ := List.mem_iff_getElem?.1 ha
    have hlt : i < es'.size := by
      rcases Nat.lt_or_ge i es.length with h' | h'
      · omega
      · rw [List.getElem?_eq_none h'] at hi; cases hi
    obtain ⟨k1, k2, _⟩ := h3 i a _ hi (Array.getElem?_eq_getElem hlt)
    exact ⟨Ids.of_VR k1, Ids.of_VR k2⟩
  | siter s pos => trivial
  | dead => trivial
  | gvar g c =>
    obtain ⟨_, C, e, lo, hi, _, _, h3⟩ := h
    intro x hx
    obtain ⟨i, hi⟩ := List.mem_iff_getElem?.1 hx
    obtain ⟨v, _, hv⟩ := h3 i x hi
    exact Ids.of_VR hv
theorem Rel.closed (r : Rel B φ h w) : Closed h := fun id o hg => (r.obj id o hg).ids
theorem ObjR.shift {N N' p : Nat → Prop} {φ φ' : Nat → Loc} (hN : ∀ id, p id → N' id) (he : ∀ id, p id → φ' id = φ id) {loc : Loc} {o : AO} {r : Option Obj} (h : ObjR N φ loc o r) (hi : o.each (Ids p)) : ObjR N' φ' loc o r := by
  cases o with
  | cells c own fz ty =>
    obtain ⟨C, e, lo, hi', h1, h2, h3, h4, h5⟩ := h
    exact ⟨C, e, lo, hi', h1, h2, h3, fun i x hx => let ⟨v, hv, hr⟩ := h4 i x hx; ⟨v, hv, hr.shift hN he (hi x (List.mem_of_getElem? hx))⟩, h5⟩
  | map es clock =>
    obtain ⟨es', h1, h2, h3⟩ := h
    exact ⟨es', h1, h2, fun i a e ha he' => let ⟨k1, k2, k3⟩ := h3 i a e ha he'; let ⟨i1, i2⟩ := hi a (List.mem_of_getElem? ha); ⟨k1.shift hN he i1, k2.shift hN he i2, k3⟩⟩
  | siter s pos => exact h
  | dead => trivial
  | gvar g c =>
    obtain ⟨h0, C, e, lo, hi', h1, h2, h3⟩ := h
    exact ⟨h0, C, e, lo, hi', h1, h2, fun i x hx => let ⟨v, hv, hr⟩ := h3 i x hx; ⟨v, hv, hr.shift hN he (hi x (List.mem_of_getElem? hx))⟩⟩

/-! ### Heaps told by what they show -/
def AH.of (n : Nat) (f : Nat → Option AO) : AH := ⟨n, (List.range n).map fun i => f (n - 1 - i)⟩
theorem AH.of_get {n : Nat} {f : Nat → Option AO} {id : Nat} : (AH.of n f).get id = if id < n then f id else none := by
  unfold AH.get AH.of
  simp only
  split
  · rename_i hlt
    rw [List.getElem?_map, List.getElem?_range (by omega)]
    simp only [Option.map_some, Option.join]
    rw [show n - 1 - (n - 1 - id) = id by omega]
    cases f id <;> rfl
  · rfl
theorem ok_same {h h' : AH} (e : ∀ id, h.get id = h'.get id) : h.ok = h'.ok := by
  funext id; unfold AH.ok; rw [e id]
theorem Rel.same {h' : AH} (r : Rel B φ h w) (e : ∀ id, h.get id = h'.get id) : Rel B φ h' w :=
  ⟨fun id o hg => by rw [← ok_same e]; exact r.obj id o (by rw [e id]; exact hg), fun id o hg => r.base id o (by rw [e id]; exact hg), fun i j o p hi hj => r.sep i j o p (by rw [e i]; exact hi) (by rw [e j]; exact hj), r.bs⟩

/-- A part of the heap in which what it holds stands. -/
theorem Rel.part {h' : AH} (r : Rel B φ h w) (hs : ∀ id o, h'.get id = some o → h.get id = some o) (hc : Closed h') : Rel B φ h' w :=
  ⟨fun id o hg => (r.obj id o (hs id o hg)).shift (p := h'.ok) (fun _ hk => hk) (fun _ _ => rfl) (hc id o hg), fun id o hg => r.base id o (hs id o hg), fun i j o p hi hj => r.sep i j o p (hs i o hi) (hs j p hj), r.bs⟩

/-- A part of the heap goes on by itself; the rest stays. -/
theorem Rel.merge {φ' φ1 φ2 : Nat → Loc} {hs cut h1 hs1 : AH} {w1 : World} (r : Rel B φ' hs w) (s : Step φ h w0 φ' hs w) (hsub : ∀ id o, cut.get id = some o → hs.get id = some o) (r1 : Rel B φ1 h1 w1) (s1 : Step φ' cut w φ1 h1 w1)
    (ha : ∀ id o, hs1.get id = some o → (h1.get id = some o ∧ φ2 id = φ1 id) ∨ (hs.get id = some o ∧ cut.get id = none ∧ φ2 id = φ' id))
    (hb1 : ∀ id, h1.ok id → hs1.ok id ∧ φ2 id = φ1 id) (hb2 : ∀ id, hs.ok id → hs1.ok id ∧ φ2 id = φ' id) (hlow : ∀ id, id < h.n → φ2 id = φ' id) (hn : h.n ≤ hs1.n) : Rel B φ2 hs1 w1 ∧ Step φ h w0 φ2 hs1 w1 := by
  have apart : ∀ i j o p, cut.get i = some o → hs.get j = some p → cut.get j = none → o.owned = true → p.live = true → (φ' i).b ≠ (φ' j).b := fun i j o p hi hj hc ho hp e => by
    have := r.sep i j o p (hsub i o hi) hj ho hp e
    subst this; rw [hi] at hc; cases hc
  have apart2 : ∀ i j o p, cut.get i = some o → hs.get j = some p → cut.get j = none → o.live = true → p.owned = true → (φ' j).b ≠ (φ' i).b := fun i j o p hi hj hc ho hp e => by
    have := r.sep j i p o hj (hsub i o hi) hp ho e
    subst this; rw [hi] at hc; cases hc
  have keep : ∀ j p, hs.get j = some p → cut.get j = none → p.live = true → w1.heap[(φ' j).b]? = w.heap[(φ' j).b]? := fun j p hj hc hp =>
    s1.frame _ (r.lt hj hp) fun i o hi ho => apart i j o p hi hj hc ho hp
  refine ⟨⟨fun id o hg => ?_, fun id o hg ho => ?_, fun i j o p hi hj ho hp e => ?_, r1.bs⟩, ⟨s1.os.trans s.os, s1.tape.trans s.tape, s1.output.trans s.output, Nat.le_trans s.size s1.size, hn, fun id hk => (hb2 id (s.okm id hk)).1, fun id hi => (hlow id hi).trans (s.ext id hi), fun k hk hf => ?_, fun id o hg ho => ?_, Nat.le_trans s.dr s1.dr, fun id o hg ho => ?_⟩⟩
  · rcases ha id o hg with ⟨k1, k2⟩ | ⟨k1, k2, k3⟩
    · rw [k2]
      exact (r1.obj id o k1).mono (fun i hi => (hb1 i hi).1) fun i hi => (hb1 i hi).2
    · rw [k3]
      cases hl : o.live with
      | false => cases o <;> first | trivial | cases hl
      | true =>
        rw [keep id o k1 k2 hl]
        exact (r.obj id o k1).mono (fun i hi => (hb2 i hi).1) fun i hi => (hb2 i hi).2
  · rcases ha id o hg with ⟨k1, k2⟩ | ⟨k1, k2, k3⟩
    · rw [k2]; exact r1.base id o k1 ho
    · rw [k3]; exact r.base id o k1 ho
  · rcases ha i o hi with ⟨k1, k2⟩ | ⟨k1, k2, k3⟩ <;> rcases ha j p hj with ⟨q1, q2⟩ | ⟨q1, q2, q3⟩
    · rw [k2, q2] at e; exact r1.sep i j o p k1 q1 ho hp e
    · rw [k2, q3] at e
      rcases s1.own i o k1 ho with h2 | ⟨m, x, hm, hx, he⟩
      · have := r.lt q1 hp; omega
      · exact absurd (he.trans e) (apart m j x p hm q1 q2 hx hp)
    · rw [k3, q2] at e
      rcases s1.lv j p q1 hp with h2 | ⟨m, x, hm, hx, he⟩
      · have := r.lt k1 (AO.owned_live ho); omega
      · exact absurd (e.trans he.symm) (apart2 m i x o hm k1 k2 hx ho)
    · rw [k3, q3] at e; exact r.sep i j o p k1 q1 ho hp e
  · rw [s1.frame k (Nat.lt_of_lt_of_le hk s.size) fun id o hg ho => ?_, s.frame k hk hf]
    rcases s.own id o (hsub id o hg) ho with h2 | ⟨j, p, hj, hp, he⟩
    · omega
    · rw [← he]; exact hf j p hj hp
  · rcases ha id o hg with ⟨k1, k2⟩ | ⟨k1, k2, k3⟩
    · rw [k2]
      rcases s1.own id o k1 ho with h2 | ⟨m, x, hm, hx, he⟩
      · exact .inl (Nat.le_trans s.size h2)
      · rw [← he]; exact s.own m x (hsub m x hm) hx
    · rw [k3]; exact s.own id o k1 ho
  · rcases ha id o hg with ⟨k1, k2⟩ | ⟨k1, k2, k3⟩
    · rw [k2]
      rcases s1.lv id o k1 ho with h2 | ⟨m, x, hm, hx, he⟩
      · exact .inl (Nat.le_trans s.size h2)
      · rw [← he]; exact s.lv m x (hsub m x hm) hx
    · rw [k3]; exact s.lv id o k1 ho

/-! ### What the check says -/
structure KChk (P : Program) (T : PTab) (as : List Nat) (ops : Array Oper) (L : List Nat) : Prop where
  lt : ∀ i ∈ L, i < ops.size
  mem : ∀ i, i < ops.size → ∃ p : Nat, L[p]? = some i
  edge : ∀ (q j : Nat) (o : Oper), L[q]? = some j → ops[j]? = some o → ∀ e ∈ o.after, Region.binds .any e = true → ∃ p : Nat, p < q ∧ L[p]? = some e.on
  op : ∀ (q j : Nat) (o : Oper), L[q]? = some j → ops[j]? = some o → opK P T as (Region.before ops) L (seqOf ops L) q j o = true
  pair : ∀ (p q i j : Nat) (x y : Oper), p < q → L[p]? = some i → L[q]? = some j → ops[i]? = some x → ops[j]? = some y → i ≠ j ∧ (∀ d, x.dst = some d → y.dst ≠ some d) ∧
    (anc ops j i ∨ (quiet ops x y = true ∧ quiet ops y x = true ∧ (kindOf P T x.op = .write → kindOf P T y.op = .write → mkW y.op = true)))
theorem seq_list {ops : Array Oper} : ∀ {L : List Nat}, (∀ i ∈ L, i < ops.size) → ∀ q : Nat, (L.filterMap fun i => ops[i]?)[q]? = (L[q]?).bind fun i => ops[i]?
  | [], _, q => by simp
  | i :: L, h, q => by
    have hi : ops[i]? = some (ops[i]'(h i (List.mem_cons_self ..))) := Array.getElem?_eq_getElem (h i (List.mem_cons_self ..))
    rw [List.filterMap_cons_some hi]
    cases q with
    | zero => simp [hi]
    | succ q => simpa using seq_list (fun i hi => h i (List.mem_cons_of_mem _ hi)) q
theorem seq_get {ops : Array Oper} {L : List Nat} (h : ∀ i ∈ L, i < ops.size) (q : Nat) : (seqOf ops L)[q]? = (L[q]?).bind fun i => ops[i]? := by
  unfold seqOf
  rw [← seq_list h q]
  simp
theorem kchk {as : List Nat} (h : dKx P T as ops = true) : KChk P T as ops (lateL ops) := by
  unfold dKx at h
  simp only [Bool.and_eq_true, List.all_eq_true, List.mem_range, decide_eq_true_eq, beq_iff_eq] at h
  generalize lateL ops = L at h
  obtain ⟨⟨⟨h1, h2⟩, h3⟩, h4⟩ := h
  have hq : ∀ q j, L[q]? = some j → q < L.length := fun q j hj => (List.getElem?_eq_some_iff.1 hj).1
  have hsq : ∀ q j o, L[q]? = some j → ops[j]? = some o → (seqOf ops L)[q]? = some o := fun q j o hj ho => by rw [seq_get h2, hj]; exact ho
  refine ⟨h2, fun i hi => ?_, fun q j o hj ho e he hb => ?_, fun q j o hj ho => ?_, fun p q i j x y hpq hi hj hx hy => ?_⟩
  · have := h3 i hi
    rw [List.contains_eq_mem, decide_eq_true_eq] at this
    exact List.mem_iff_getElem?.1 this
  · have k := h4 q (hq q j hj)
    rw [hj, hsq q j o hj ho] at k
    simp only [Bool.and_eq_true, Array.all_eq_true_iff_forall_mem] at k
    have := k.1.2 e he
    simp only [hb, Bool.not_true, Bool.false_or] at this
    rw [List.contains_eq_mem, decide_eq_true_eq] at this
    obtain ⟨p, hp⟩ := List.mem_iff_getElem?.1 this
    rw [List.getElem?_take] at hp
    split at hp
    · rename_i hlt; exact ⟨p, hlt, hp⟩
    · cases hp
  · have k := h4 q (hq q j hj)
    rw [hj, hsq q j o hj ho] at k
    simp only [Bool.and_eq_true] at k
    exact k.1.1
  · have k := h4 q (hq q j hj)
    rw [hj, hsq q j y hj hy] at k
    simp only [Bool.and_eq_true, List.all_eq_true, List.mem_range] at k
    have k := k.2 p hpq
    rw [hi, hsq p i x hi hx] at k
    unfold pairK at k
    simp only [Bool.and_eq_true, Bool.or_eq_true, Bool.not_eq_true', beq_eq_false_iff_ne] at k
    obtain ⟨⟨k1, k2⟩, k3⟩ := k
    refine ⟨k1, fun d hd e => ?_, ?_⟩
    · rw [hd] at k2
      simp only [e] at k2
      simp at k2
    · rcases k3 with k3 | k3
      · exact .inl k3
      · exact .inr ⟨k3.1.1, k3.1.2, fun e1 e2 => by
          rcases k3.2 with (k4 | k4) | k4
          · exact absurd e1 k4
          · exact absurd e2 k4
          · exact k4⟩

theorem mk_shape {env : List AV} {o : Op} (hm : mkW o = true) {h h' : AH} {v : AV} (ha : aop P callF env o h = some (v, h')) : ∃ obj, h' = h.push obj ∧ ∀ h2 : AH, h2.n = h.n → aop P callF env o h2 = some (v, h2.push obj) := by
  unfold mkW at hm
  split at hm <;> first | (cases hm; done) | skip
  · simp only [aop] at ha ⊢
    split at ha
    · obtain ⟨c, hc, hb⟩ := map_some ha
      cases hb
      exact ⟨_, rfl, fun h2 hn => by rw [hc]; simp only [Option.map_some, anew, hn]⟩
    · cases ha
  · simp only [aop] at ha ⊢
    obtain ⟨c, hc, hb⟩ := map_some ha
    cases hb
    exact ⟨_, rfl, fun h2 hn => by rw [hc]; simp only [Option.map_some, anew, hn]⟩
  · simp only [aop] at ha ⊢
    unfold abuildSlice at ha ⊢
    split at ha
    rotate_left
    · cases ha
    split at ha
    rotate_left
    · cases ha
    split at ha
    · cases ha
    rename_i hsz
    split at ha
    rotate_left
    · cases ha
    split at ha
    rotate_left
    · cases ha
    split at ha
    · cases ha
    rename_i hz
    split at ha
    rotate_left
    · cases ha
    cases ha
    refine ⟨_, rfl, fun h2 hn => ?_⟩
    simp only [*, if_false, hn]
  · simp only [aop] at ha ⊢
    cases ha
    exact ⟨_, rfl, fun h2 hn => by rw [hn]⟩
  · simp only [aop] at ha ⊢
    unfold amakeSlice at ha ⊢
    split at ha
    rotate_left
    · cases ha
    split at ha
    rotate_left
    · cases ha
    split at ha
    rotate_left
    · cases ha
    split at ha
    rotate_left
    · cases ha
    rename_i hc
    cases ha
    refine ⟨_, rfl, fun h2 hn => ?_⟩
    simp only [*, if_true, hn, and_self]

/-- One operation, by what it makes of the temporaries. -/
def Act.putD (a : Act) (d : Option Tmp) (v : Value) : Act := a.put d v
theorem step_by (hC : CallOK P B callF) {i : Nat} {o : Oper} (hi : ops[i]? = some o) {env env' : List AV} {h' : AH} (hs : astep P callF ops o env h = some (env', h')) {a : Act} (r : Rel B φ h w) (he : ActR h.ok φ env a)
    {K : Act → World → Prop} {Q : Exit → Act → World → Prop} (hn : ∀ v v' φ' w', env' = eput env o.dst v → VR h'.ok φ' v v' → Rel B φ' h' w' → Step φ h w φ' h' w' → K (a.put o.dst v') w') : wpOp P ops Q i K a w := by
  unfold wpOp
  simp only [hi]
  unfold astep at hs
  split at hs
  · rename_i hw
    obtain ⟨⟨v, h1⟩, ho, hbb⟩ := map_some hs
    simp only at hbb
    cases hbb
    simp only [wanted_sound hw he, if_true]
    refine .inl (op_sound hC r ho he.1 fun v' w' hres => ?_)
    obtain ⟨φ', hv, r', s'⟩ := hres
    exact hn _ _ _ _ rfl hv r' s'
  · rename_i hw
    cases hs
    simp only [wanted_sound hw he, Bool.false_eq_true, if_false]
    exact hn _ _ _ _ rfl (VR.undef _ _) r (Step.refl _ _ _)
  · cases hs

/-! ### The heap of what has run -/
open Classical in
noncomputable def HS (N : Nat) (st : Nat → List AV × AH) (made : Nat → Prop) (k : Nat) : AH :=
  AH.of (st N).2.n fun id => if id < (st k).2.n then (st k).2.get id else if ∃ q, k ≤ q ∧ q < N ∧ made q ∧ (st q).2.n ≤ id ∧ id < (st (q + 1)).2.n then (st N).2.get id else none

structure DKB (P : Program) (B : Nat) (T : PTab) (ops : Array Oper) (L : List Nat) (st : Nat → List AV × AH) (φ : Nat → Loc) (h : AH) (w0 : World) (made : Nat → Prop) (a : Act) (w : World) (φ' : Nat → Loc) (env' : List AV) (k : Nat) : Prop where
  len : env'.length = (st 0).1.length
  hi : ∀ (q j : Nat) (o : Oper) (t : Nat), L[q]? = some j → ops[j]? = some o → o.dst = some t → made q → env'[t]? = (st (q + 1)).1[t]?
  lo : ∀ t : Nat, (∀ (q j : Nat) (o : Oper), L[q]? = some j → ops[j]? = some o → o.dst = some t → ¬ made q) → env'[t]? = (st 0).1[t]?
  kle : k ≤ L.length
  w1 : ∀ (q j : Nat) (o : Oper), L[q]? = some j → ops[j]? = some o → kindOf P T o.op = .write → q < k → made q
  w2 : ∀ (q j : Nat) (o : Oper), L[q]? = some j → ops[j]? = some o → kindOf P T o.op = .write → k ≤ q → made q → mkW o.op = true
  J : ∀ (q j : Nat) (o : Oper) (t : Nat) (x : AV), L[q]? = some j → ops[j]? = some o → o.dst = some t → made q → (st (q + 1)).1[t]? = some x → Ids (st (q + 1)).2.ok x
  cl : ∀ q, q ≤ k → Closed (st q).2
  ce : ∀ (q j : Nat) (o : Oper), L[q]? = some j → ops[j]? = some o → k ≤ q → made q → ∀ id obj, (st q).2.n ≤ id → (st (q + 1)).2.get id = some obj → obj.each (Ids (st (q + 1)).2.ok)
  env : ActR (HS L.length st made k).ok φ' env' a
  rel : Rel B φ' (HS L.length st made k) w
  step : Step φ h w0 φ' (HS L.length st made k) w

theorem Step.same {φ' : Nat → Loc} {h1 h2 : AH} {w1 : World} (s : Step φ h w φ' h1 w1) (e : ∀ id, h1.get id = h2.get id) (hn : h.n ≤ h2.n) : Step φ h w φ' h2 w1 :=
  ⟨s.os, s.tape, s.output, s.size, hn, fun id hk => by rw [← ok_same e]; exact s.okm id hk, s.ext, s.frame, fun id o hg => s.own id o (by rw [e id]; exact hg), s.dr, fun id o hg => s.lv id o (by rw [e id]; exact hg)⟩

theorem eput_inj {env2 env3 : List AV} {d : Option Tmp} {v v' : AV} (hl : env3.length = env2.length) (e : eput env2 d v = eput env2 d v') : eput env3 d v = eput env3 d v' := by
  cases d with
  | none => rfl
  | some t =>
    by_cases ht : t < env2.length
    · have h1 := congrArg (fun l : List AV => l[t]?) e
      simp only [eput, List.getElem?_set_self ht, Option.some.injEq] at h1
      rw [h1]
    · simp only [eput]
      have ht : env3.length ≤ t := by rw [hl]; exact Nat.le_of_not_lt ht
      rw [List.set_eq_of_length_le ht, List.set_eq_of_length_le ht]

section
variable {as L : List Nat} (hc : KChk P T as ops L) (hst : ∀ (q j : Nat) (o : Oper), L[q]? = some j → ops[j]? = some o → astep P (withTab T (keepF callF)) ops o (st q).1 (st q).2 = some (st (q + 1)))
include hc hst

theorem late_at {q : Nat} (hq : q < L.length) : ∃ j o, L[q]? = some j ∧ ops[j]? = some o := by
  have _h := hst
  have h1 : L[q]? = some L[q] := List.getElem?_eq_getElem hq
  have h2 := hc.lt _ (List.mem_of_getElem? h1)
  exact ⟨_, _, h1, Array.getElem?_eq_getElem h2⟩

theorem late_quiet {q j : Nat} {o : Oper} (hj : L[q]? = some j) (ho : ops[j]? = some o) (hk : kindOf P T o.op ≠ .write) : (st (q + 1)).2 = (st q).2 := by
  have _h := hc
  obtain ⟨v, e, h1 | h1⟩ := step_val (hst q j o hj ho)
  · cases hk2 : kindOf P T o.op with
    | free => exact (kind_free hk2 h1.2).1
    | read => exact kind_read hk2 h1.2
    | write => exact absurd hk2 hk
  · exact h1.2.2

theorem late_make {q j : Nat} {o : Oper} (hj : L[q]? = some j) (ho : ops[j]? = some o) (hm : mkW o.op = true) : (st (q + 1)).2 = (st q).2 ∨ ∃ obj, (st (q + 1)).2 = (st q).2.push obj := by
  have _h := hc
  obtain ⟨v, e, h1 | h1⟩ := step_val (hst q j o hj ho)
  · obtain ⟨obj, e1, _⟩ := mk_shape hm h1.2
    exact .inr ⟨obj, e1⟩
  · exact .inl h1.2.2

theorem late_keep1 {q : Nat} (hq : q < L.length) : Keep (st q).2 (st (q + 1)).2 ∧ (st q).2.n ≤ (st (q + 1)).2.n := by
  obtain ⟨j, o, hj, ho⟩ := late_at hc hst hq
  by_cases hk : kindOf P T o.op = .write
  · have hop := hc.op q j o hj ho
    unfold opK at hop
    rw [hk] at hop
    simp only [Bool.or_eq_true] at hop
    rcases hop with hm | hm
    · rcases late_make hc hst hj ho hm with e | ⟨obj, e⟩
      · rw [e]; exact ⟨Keep.refl _, Nat.le_refl _⟩
      · rw [e]; exact ⟨fun id p hg => by rw [AH.get_push_ne (by have := AH.get_lt hg; omega)]; exact hg, by rw [AH.push_n]; omega⟩
    · unfold callFn at hm
      split at hm
      · rename_i c hop2
        split at hm
        · rename_i f hcal
          obtain ⟨v, e, ⟨_, h1⟩ | ⟨_, _, h1⟩⟩ := step_val (hst q j o hj ho)
          · rw [hop2] at h1
            simp only [aop, acall1, hcal, evalOp, List.nil_append, List.append_nil, withTab] at h1
            have ht : T f = none := by
              rw [hop2] at hk
              simp only [kindOf, kindCall, hcal] at hk
              cases hT : T f with
              | none => rfl
              | some p => rw [hT] at hk; cases p <;> cases hk
            rw [ht] at h1
            exact (keepF_some h1).2
          · rw [h1]; exact ⟨Keep.refl _, Nat.le_refl _⟩
        · cases hm
      · cases hm
  · rw [late_quiet hc hst hj ho hk]; exact ⟨Keep.refl _, Nat.le_refl _⟩
theorem late_keep (p : Nat) : ∀ q, p ≤ q → q ≤ L.length → Keep (st p).2 (st q).2 ∧ (st p).2.n ≤ (st q).2.n
  | 0, h1, _ => by
    obtain rfl : p = 0 := by omega
    exact ⟨Keep.refl _, Nat.le_refl _⟩
  | q + 1, h1, h2 => by
    rcases Nat.lt_or_ge q p with h3 | h3
    · obtain rfl : p = q + 1 := by omega
      exact ⟨Keep.refl _, Nat.le_refl _⟩
    · obtain ⟨k1, k2⟩ := late_keep p q h3 (by omega)
      obtain ⟨k3, k4⟩ := late_keep1 hc hst (q := q) (by omega)
      exact ⟨fun id o hg => k3 id o (k1 id o hg), Nat.le_trans k2 k4⟩

variable {made : Nat → Prop}
theorem HS_some {k : Nat} (hk : k ≤ L.length) {id : Nat} {o : AO} (hg : (HS L.length st made k).get id = some o) : (st L.length).2.get id = some o ∧
    ((id < (st k).2.n ∧ (st k).2.get id = some o) ∨ ((st k).2.n ≤ id ∧ ∃ q, k ≤ q ∧ q < L.length ∧ made q ∧ (st q).2.n ≤ id ∧ id < (st (q + 1)).2.n)) := by
  unfold HS at hg
  rw [AH.of_get] at hg
  split at hg
  rotate_left
  · cases hg
  split at hg
  · rename_i h1
    exact ⟨(late_keep hc hst k _ hk (Nat.le_refl _)).1 id o hg, .inl ⟨h1, hg⟩⟩
  · rename_i h1
    split at hg
    · rename_i h2; exact ⟨hg, .inr ⟨by omega, h2⟩⟩
    · cases hg
theorem HS_low {k : Nat} (hk : k ≤ L.length) {id : Nat} (hlt : id < (st k).2.n) : (HS L.length st made k).get id = (st k).2.get id := by
  unfold HS
  rw [AH.of_get, if_pos (by have := (late_keep hc hst k _ hk (Nat.le_refl _)).2; omega), if_pos hlt]
theorem HS_high {k : Nat} {id q : Nat} (hlt : ¬ id < (st k).2.n) (h1 : k ≤ q) (h2 : q < L.length) (h3 : made q) (h4 : (st q).2.n ≤ id) (h5 : id < (st (q + 1)).2.n) : (HS L.length st made k).get id = (st L.length).2.get id := by
  unfold HS
  rw [AH.of_get, if_pos (by have := (late_keep hc hst (q + 1) _ (by omega) (Nat.le_refl _)).2; omega), if_neg hlt, if_pos ⟨q, h1, h2, h3, h4, h5⟩]
theorem HS_none {k : Nat} {id : Nat} (hlt : ¬ id < (st k).2.n) (hn : ∀ q, k ≤ q → q < L.length → made q → (st q).2.n ≤ id → id < (st (q + 1)).2.n → False) : (HS L.length st made k).get id = none := by
  have _h := hc
  have _h := hst
  unfold HS
  rw [AH.of_get]
  by_cases hN : id < (st L.length).2.n
  · rw [if_pos hN, if_neg hlt, if_neg (fun ⟨q, h1, h2, h3, h4, h5⟩ => hn q h1 h2 h3 h4 h5)]
  · rw [if_neg hN]

/-- Whatever has run ahead of k is of the heap of k. -/
theorem DKB.adv {a : Act} {w : World} {φ' : Nat → Loc} {env' : List AV} {k : Nat} (hn0 : h.n = (st 0).2.n) (D : DKB P B T ops L st φ h w0 made a w φ' env' k) (hk : k < L.length) (hm : ∀ j o, L[k]? = some j → ops[j]? = some o → kindOf P T o.op = .write → made k) :
    DKB P B T ops L st φ h w0 made a w φ' env' (k + 1) := by
  obtain ⟨j, o, hj, ho⟩ := late_at hc hst hk
  have hshape : (st (k + 1)).2 = (st k).2 ∨ (made k ∧ ∃ obj, (st (k + 1)).2 = (st k).2.push obj) := by
    by_cases hw : kindOf P T o.op = .write
    · have hmk := hm j o hj ho hw
      rcases late_make hc hst hj ho (D.w2 k j o hj ho hw (Nat.le_refl _) hmk) with e | ⟨obj, e⟩
      · exact .inl e
      · exact .inr ⟨hmk, obj, e⟩
    · exact .inl (late_quiet hc hst hj ho hw)
  have e : ∀ id, (HS L.length st made k).get id = (HS L.length st made (k + 1)).get id := by
    intro id
    rcases hshape with e | ⟨hmk, obj, e⟩
    · by_cases hlt : id < (st k).2.n
      · rw [HS_low hc hst D.kle hlt, HS_low hc hst (by omega) (by rw [e]; exact hlt), e]
      · by_cases hx : ∃ q, k ≤ q ∧ q < L.length ∧ made q ∧ (st q).2.n ≤ id ∧ id < (st (q + 1)).2.n
        · obtain ⟨q, h1, h2, h3, h4, h5⟩ := hx
          have hne : q ≠ k := fun e' => by subst e'; rw [e] at h5; omega
          rw [HS_high hc hst hlt h1 h2 h3 h4 h5, HS_high hc hst (by rw [e]; exact hlt) (by omega) h2 h3 h4 h5]
        · rw [HS_none hc hst hlt (fun q h1 h2 h3 h4 h5 => hx ⟨q, h1, h2, h3, h4, h5⟩), HS_none hc hst (by rw [e]; exact hlt) (fun q h1 h2 h3 h4 h5 => hx ⟨q, by omega, h2, h3, h4, h5⟩)]
    · have hn : (st (k + 1)).2.n = (st k).2.n + 1 := by rw [e, AH.push_n]
      by_cases hlt : id < (st k).2.n
      · rw [HS_low hc hst D.kle hlt, HS_low hc hst (by omega) (by omega), e, AH.get_push_old hlt]
      · by_cases hid : id = (st k).2.n
        · rw [HS_high hc hst hlt (Nat.le_refl _) hk hmk (by omega) (by omega), HS_low hc hst (by omega) (by omega)]
          have h1 : (st (k + 1)).2.get id = some obj := by rw [e, hid, AH.get_push_new]
          rw [h1, (late_keep hc hst (k + 1) _ (by omega) (Nat.le_refl _)).1 id obj h1]
        · by_cases hx : ∃ q, k ≤ q ∧ q < L.length ∧ made q ∧ (st q).2.n ≤ id ∧ id < (st (q + 1)).2.n
          · obtain ⟨q, h1, h2, h3, h4, h5⟩ := hx
            have hne : q ≠ k := fun e' => by subst e'; omega
            rw [HS_high hc hst hlt h1 h2 h3 h4 h5, HS_high hc hst (by omega) (by omega) h2 h3 h4 h5]
          · rw [HS_none hc hst hlt (fun q h1 h2 h3 h4 h5 => hx ⟨q, h1, h2, h3, h4, h5⟩), HS_none hc hst (by omega) (fun q h1 h2 h3 h4 h5 => hx ⟨q, by omega, h2, h3, h4, h5⟩)]
  refine ⟨D.len, D.hi, D.lo, hk, fun q j' o' h1 h2 h3 h4 => ?_, fun q j' o' h1 h2 h3 h4 => D.w2 q j' o' h1 h2 h3 (by omega), D.J, fun q hq => ?_, fun q j' o' h1 h2 h3 => D.ce q j' o' h1 h2 (by omega), by rw [← ok_same e]; exact D.env, D.rel.same e, D.step.same e ?_⟩
  · rcases Nat.lt_or_ge q k with h5 | h5
    · exact D.w1 q j' o' h1 h2 h3 h5
    · obtain rfl : q = k := by omega
      exact hm j' o' h1 h2 h3
  · rcases Nat.lt_or_ge k q with h5 | h5
    rotate_left
    · exact D.cl q h5
    obtain rfl : q = k + 1 := by omega
    rcases hshape with e' | ⟨hmk, obj, e'⟩
    · rw [e']; exact D.cl k (Nat.le_refl _)
    · intro id p hg
      by_cases hid : id = (st k).2.n
      · exact D.ce k j o hj ho (Nat.le_refl _) hmk id p (by omega) hg
      · rw [e', AH.get_push_ne hid] at hg
        exact AO.each.mono (fun x hx => Ids.mono (fun i hi => by rw [e']; exact AH.ok_push hi) hx) (D.cl k (Nat.le_refl _) id p hg)
  · unfold HS AH.of
    rw [hn0]
    exact (late_keep hc hst 0 _ (Nat.zero_le _) (Nat.le_refl _)).2
theorem DKB.advTo {a : Act} {w : World} {φ' : Nat → Loc} {env' : List AV} (hn0 : h.n = (st 0).2.n) (q : Nat) (hq : q ≤ L.length) : ∀ (n k : Nat), k + n = q → DKB P B T ops L st φ h w0 made a w φ' env' k → (∀ (p j : Nat) (o : Oper), k ≤ p → p < q → L[p]? = some j → ops[j]? = some o → kindOf P T o.op = .write → made p) → DKB P B T ops L st φ h w0 made a w φ' env' q
  | 0, k, e, D, _ => by obtain rfl : k = q := by omega
                        exact D
  | n + 1, k, e, D, hm => DKB.advTo hn0 q hq n (k + 1) (by omega) (D.adv hc hst hn0 (by omega) fun j o hj ho hw => hm k j o (Nat.le_refl _) (by omega) hj ho hw) fun p j o h1 h2 => hm p j o (by omega) h2

omit hst in
theorem late_anc {listed : Array Bool} (hcl : ∀ j o, ops[j]? = some o → Li listed j → ∀ e ∈ o.after, Region.binds .any e = true → Li listed e.on) : ∀ (n q j : Nat), q < n → L[q]? = some j → (∀ o, ops[j]? = some o → ∀ e ∈ o.after, Region.binds .any e = true → Li listed e.on) → ∀ a, anc ops j a → Li listed a
  | 0, q, j, hq, _, _, _, _ => by omega
  | n + 1, q, j, hq, hj, hr, a, ha => by
    obtain ⟨o, ho, e, he, hb, hon⟩ := before_spec ops j a ha
    have hl := hr o ho e he hb
    rcases hon with rfl | hon
    · exact hl
    · obtain ⟨p, hp, hpj⟩ := hc.edge q j o hj ho e he hb
      exact late_anc hcl n p e.on (by omega) hpj (fun o' ho' => hcl e.on o' ho' hl) a hon
omit hst in
/-- What comes ahead stands ahead. -/
theorem late_order : ∀ (n q j : Nat), q < n → L[q]? = some j → ∀ a, anc ops j a → ∃ p : Nat, p < q ∧ L[p]? = some a
  | 0, q, j, hq, _, _, _ => by omega
  | n + 1, q, j, hq, hj, a, ha => by
    obtain ⟨o, ho, e, he, hb, hon⟩ := before_spec ops j a ha
    obtain ⟨p, hp, hpj⟩ := hc.edge q j o hj ho e he hb
    rcases hon with rfl | hon
    · exact ⟨p, hp, hpj⟩
    · obtain ⟨p', h1, h2⟩ := late_order n p e.on (by omega) hpj a hon
      exact ⟨p', by omega, h2⟩
omit hst in
theorem late_one {p q i : Nat} (hp : L[p]? = some i) (hq : L[q]? = some i) : p = q := by
  have hi := hc.lt i (List.mem_of_getElem? hp)
  have ho : ops[i]? = some ops[i] := Array.getElem?_eq_getElem hi
  rcases Nat.lt_trichotomy p q with h1 | h1 | h1
  · exact absurd rfl (hc.pair p q i i _ _ h1 hp hq ho ho).1
  · exact h1
  · exact absurd rfl (hc.pair q p i i _ _ h1 hq hp ho ho).1
omit hst in
theorem late_all {listed : Array Bool} (hr : Region.ready .any ops listed = []) (hs : listed.size = ops.size) : ∀ (n q j : Nat), q < n → L[q]? = some j → Li listed j
  | 0, q, j, hq, _ => by omega
  | n + 1, q, j, hq, hj => by
    cases hd : listed.getD j false with
    | true => exact hd
    | false =>
      have hlt := hc.lt j (List.mem_of_getElem? hj)
      have ho : ops[j]? = some ops[j] := Array.getElem?_eq_getElem hlt
      have : j ∈ Region.ready .any ops listed := mem_ready.2 ⟨by
        rw [Array.getD_eq_getD_getElem?, Array.getElem?_eq_getElem (by omega : j < listed.size)] at hd ⊢
        exact hd, _, ho, fun e he hb => by
          obtain ⟨p, hp, hpj⟩ := hc.edge q j _ hj ho e he hb
          exact late_all hr hs n p e.on (by omega) hpj⟩
      rw [hr] at this
      cases this

omit hc in
theorem late_env {t : Nat} (p : Nat) : ∀ q, p ≤ q → q ≤ L.length → (∀ i ∈ L, i < ops.size) → (∀ (r j : Nat) (o : Oper), p ≤ r → r < q → L[r]? = some j → ops[j]? = some o → o.dst ≠ some t) → (st q).1[t]? = (st p).1[t]?
  | 0, h1, _, _, _ => by obtain rfl : p = 0 := by omega
                         rfl
  | q + 1, h1, h2, hlt, hn => by
    rcases Nat.lt_or_ge q p with h3 | h3
    · obtain rfl : p = q + 1 := by omega
      rfl
    · have hj : L[q]? = some L[q] := List.getElem?_eq_getElem (by omega)
      have ho : ops[L[q]]? = some (ops[L[q]]'(hlt _ (List.mem_of_getElem? hj))) := Array.getElem?_eq_getElem _
      obtain ⟨v, e, _⟩ := step_val (hst q _ _ hj ho)
      rw [e, eput_other (hn q _ _ h3 (Nat.lt_succ_self q) hj ho)]
      exact late_env p q h3 (by omega) hlt fun r j o a b => hn r j o a (by omega)
theorem late_len : ∀ q, q ≤ L.length → (st q).1.length = (st 0).1.length
  | 0, _ => rfl
  | q + 1, hq => by
    obtain ⟨j, o, hj, ho⟩ := late_at hc hst (q := q) (by omega)
    obtain ⟨v, e, _⟩ := step_val (hst q j o hj ho)
    rw [e, eput_length]
    exact late_len q (by omega)
end

theorem mk_astep {o : Oper} (hm : mkW o.op = true) {env env1 : List AV} {h h1 h2 : AH} (hs : astep P callF ops o env h = some (env1, h1)) (hn : h2.n = h.n) :
    (h1 = h ∧ astep P callF ops o env h2 = some (env1, h2)) ∨ ∃ obj, h1 = h.push obj ∧ astep P callF ops o env h2 = some (env1, h2.push obj) := by
  unfold astep at hs ⊢
  split at hs
  · obtain ⟨⟨v, h3⟩, ho, hb⟩ := map_some hs
    cases hb
    obtain ⟨obj, rfl, h4⟩ := mk_shape hm ho
    exact .inr ⟨obj, rfl, by rw [h4 h2 hn]; rfl⟩
  · cases hs; exact .inl ⟨rfl, rfl⟩
  · cases hs
theorem AO.each.and {p q : AV → Prop} {o : AO} (h : o.each p) (k : o.each q) : o.each fun x => p x ∧ q x := by
  cases o <;> first | trivial | exact fun x hx => ⟨h x hx, k x hx⟩ | exact fun a ha => ⟨⟨(h a ha).1, (k a ha).1⟩, ⟨(h a ha).2, (k a ha).2⟩⟩

/-- What has run, by its places. -/
def LP (L : List Nat) (listed : Array Bool) (q : Nat) : Prop := ∃ j, L[q]? = some j ∧ Li listed j

section
variable {as L : List Nat} (hc : KChk P T as ops L) (hst : ∀ (q j : Nat) (o : Oper), L[q]? = some j → ops[j]? = some o → astep P (withTab T (keepF callF)) ops o (st q).1 (st q).2 = some (st (q + 1)))
include hc hst

theorem late_ok {p q : Nat} (h1 : p ≤ q) (h2 : q ≤ L.length) {id : Nat} (hk : (st p).2.ok id) : (st q).2.ok id := let ⟨o, ho⟩ := hk; ⟨o, (late_keep hc hst p q h1 h2).1 id o ho⟩

/-- What a part of the heap of what has run holds stands as well at such a place of the text's. -/
theorem late_clo {made : Nat → Prop} {a : Act} {w : World} {φ' : Nat → Loc} {env' : List AV} {k : Nat} (D : DKB P B T ops L st φ h w0 made a w φ' env' k) {p : Nat} (hp : p ≤ L.length) {id : Nat} {o : AO} (hg : (st p).2.get id = some o) (hk : (HS L.length st made k).ok id) : o.each (Ids (st p).2.ok) := by
  obtain ⟨o', ho'⟩ := hk
  obtain ⟨h1, h2⟩ := HS_some hc hst D.kle ho'
  have h3 := (late_keep hc hst p _ hp (Nat.le_refl _)).1 id o hg
  rw [h1] at h3
  cases h3
  rcases Nat.le_total p k with hpk | hpk
  · exact D.cl p hpk id o hg
  · rcases h2 with ⟨_, h2⟩ | ⟨_, q, q1, q2, q3, q4, q5⟩
    · exact AO.each.mono (fun x hx => Ids.mono (fun i hi => late_ok hc hst hpk hp hi) hx) (D.cl k (Nat.le_refl _) id o h2)
    · have hlt := AH.get_lt hg
      have hqp : q < p := by
        rcases Nat.lt_or_ge q p with h4 | h4
        · exact h4
        · have := (late_keep hc hst p q h4 (by omega)).2; omega
      obtain ⟨j, x, hj, hx⟩ := late_at hc hst q2
      have hw : kindOf P T x.op = .write := by
        cases hkd : kindOf P T x.op with
        | write => rfl
        | free => have := late_quiet hc hst hj hx (by rw [hkd]; intro e; cases e); rw [this] at q5; omega
        | read => have := late_quiet hc hst hj hx (by rw [hkd]; intro e; cases e); rw [this] at q5; omega
      rcases late_make hc hst hj hx (D.w2 q j x hj hx hw q1 q3) with e | ⟨obj, e⟩
      · rw [e] at q5; omega
      · have hid : id = (st q).2.n := by rw [e, AH.push_n] at q5; omega
        have h5 : (st (q + 1)).2.get id = some obj := by rw [e, hid, AH.get_push_new]
        have h6 := (late_keep hc hst (q + 1) _ (by omega) (Nat.le_refl _)).1 id obj h5
        rw [h1] at h6
        cases h6
        exact AO.each.mono (fun x hx => Ids.mono (fun i hi => late_ok hc hst (by omega) hp hi) hx) (D.ce q j x hj hx q1 q3 id o (by omega) h5)

theorem late_step (hL : PTabMono T) (hC : CallOK P B (withTab T (keepF callF))) (hn0 : h.n = (st 0).2.n) (J0 : ∀ (t : Nat) (x : AV), (st 0).1[t]? = some x → Ids (st 0).2.ok x) (hrt : ∀ a0 ∈ as, ∃ id, RootV id ((st 0).1.getD a0 .undef)) {listed : Array Bool} (hsz : listed.size = ops.size)
    (hcl : ∀ j o, ops[j]? = some o → Li listed j → ∀ e ∈ o.after, Region.binds .any e = true → Li listed e.on) {a : Act} {w : World} {φ' : Nat → Loc} {env' : List AV} {k0 : Nat} (D0 : DKB P B T ops L st φ h w0 (LP L listed) a w φ' env' k0) {i : Nat} (hr : i ∈ Region.ready .any ops listed)
    {Q : Exit → Act → World → Prop} {K : Act → World → Prop} (hn : ∀ a' w' φ2 env2 k2, DKB P B T ops L st φ h w0 (LP L (listed.setIfInBounds i true)) a' w' φ2 env2 k2 → K a' w') : wpOp P ops Q i K a w := by
  classical
  obtain ⟨hsz', hun⟩ := ready_unlisted hr
  obtain ⟨_, o, ho, hedges⟩ := mem_ready.1 hr
  obtain ⟨p, hp⟩ := hc.mem i (lt_of_get ho)
  have hpl : p < L.length := (List.getElem?_eq_some_iff.1 hp).1
  have hnp : ¬ LP L listed p := fun ⟨j, h1, h2⟩ => by rw [hp] at h1; cases h1; exact hun h2
  have hanc : ∀ a, anc ops i a → Li listed a := late_anc hc hcl (p + 1) p i (Nat.lt_succ_self p) hp fun o' ho' => by rw [ho] at ho'; cases ho'; exact hedges
  have hdesc : ∀ j q, L[q]? = some j → Li listed j → ¬ anc ops j i := fun j q hq hj ha => hun (late_anc hc hcl (q + 1) q j (Nat.lt_succ_self q) hq (fun o' ho' => hcl j o' ho' hj) i ha)
  have hmade : ∀ q, LP L (listed.setIfInBounds i true) q ↔ LP L listed q ∨ q = p := fun q => by
    constructor
    · rintro ⟨j, h1, h2⟩
      rcases (li_set hsz' j).1 h2 with rfl | h3
      · exact .inr (late_one hc h1 hp)
      · exact .inl ⟨j, h1, h3⟩
    · rintro (⟨j, h1, h2⟩ | rfl)
      · exact ⟨j, h1, (li_set hsz' j).2 (.inr h2)⟩
      · exact ⟨i, hp, (li_set hsz' i).2 (.inl rfl)⟩
  -- what the operation looks at
  have hE : ∀ t ∈ o.looksAt ops, env'[t]? = (st p).1[t]? ∧ ∀ x, (st p).1[t]? = some x → Ids (st p).2.ok x := by
    intro t ht
    have quietNo : ∀ x : Oper, quiet ops x o = true → x.dst = some t → False := fun x h1 hd => by
      simp only [quiet, hd, Bool.not_eq_true'] at h1
      have : (o.looksAt ops).contains t = true := by simpa using ht
      rw [this] at h1; cases h1
    by_cases hw : ∃ (q j : Nat) (x : Oper), q < p ∧ L[q]? = some j ∧ ops[j]? = some x ∧ x.dst = some t
    · obtain ⟨q, j, x, hqp, hj, hx, hd⟩ := hw
      have hl : Li listed j := by
        rcases (hc.pair q p j i x o hqp hj hp hx ho).2.2 with h1 | ⟨h1, _⟩
        · exact hanc j h1
        · exact (quietNo x h1 hd).elim
      have e1 : (st p).1[t]? = (st (q + 1)).1[t]? := late_env hst (q + 1) p (by omega) (by omega) hc.lt fun r j' o' h1 h2 h3 h4 => (hc.pair q r j j' x o' (by omega) hj h3 hx h4).2.1 t hd
      refine ⟨(D0.hi q j x t hj hx hd ⟨j, hj, hl⟩).trans e1.symm, fun y hy => ?_⟩
      rw [e1] at hy
      exact (D0.J q j x t y hj hx hd ⟨j, hj, hl⟩ hy).mono fun id hk => late_ok hc hst (by omega) (by omega) hk
    · have e1 : (st p).1[t]? = (st 0).1[t]? := late_env hst 0 p (Nat.zero_le _) (by omega) hc.lt fun r j' o' h1 h2 h3 h4 hd => hw ⟨r, j', o', h2, h3, h4, hd⟩
      refine ⟨(D0.lo t fun q j x hj hx hd hm => ?_).trans e1.symm, fun y hy => (J0 t y (by rw [← e1]; exact hy)).mono fun id hk => late_ok hc hst (Nat.zero_le _) (by omega) hk⟩
      obtain ⟨j', hj', hl⟩ := hm
      rw [hj] at hj'; cases hj'
      rcases Nat.lt_trichotomy q p with h1 | h1 | h1
      · exact hw ⟨q, j, x, h1, hj, hx, hd⟩
      · subst h1; exact hnp ⟨j, hj, hl⟩
      · rcases (hc.pair p q i j o x h1 hp hj ho hx).2.2 with h2 | ⟨_, h2, _⟩
        · exact hdesc j q hj hl h2
        · exact quietNo x h2 hd
  -- how far it stands
  have hwk : kindOf P T o.op = .write → k0 ≤ p := fun hw => by
    rcases Nat.lt_or_ge p k0 with h1 | h1
    · exact absurd (D0.w1 p i o hp ho hw h1) hnp
    · exact h1
  obtain ⟨k, D, hkp⟩ : ∃ k, DKB P B T ops L st φ h w0 (LP L listed) a w φ' env' k ∧ ((kindOf P T o.op = .write → mkW o.op = false → k = p) ∧ (kindOf P T o.op = .write → k ≤ p) ∧ (ordL P T (Region.before ops) L (seqOf ops L) i o.op = true → kindOf P T o.op = .read → p ≤ k)) := by
    by_cases hw : kindOf P T o.op = .write
    · by_cases hm : mkW o.op = false
      · refine ⟨p, D0.advTo hc hst hn0 p (by omega) (p - k0) k0 (by have := hwk hw; omega) fun q j x h1 h2 hj hx hwx => ?_, fun _ _ => rfl, fun _ => Nat.le_refl _, fun _ _ => Nat.le_refl _⟩
        rcases (hc.pair q p j i x o h2 hj hp hx ho).2.2 with h3 | ⟨_, _, h3⟩
        · exact ⟨j, hj, hanc j h3⟩
        · have := h3 hwx hw; rw [hm] at this; cases this
      · exact ⟨k0, D0, fun _ h1 => absurd h1 hm, hwk, fun _ h1 => by rw [hw] at h1; cases h1⟩
    · by_cases ho2 : ordL P T (Region.before ops) L (seqOf ops L) i o.op = true ∧ k0 < p
      · refine ⟨p, D0.advTo hc hst hn0 p (by omega) (p - k0) k0 (by omega) fun q j x h1 h2 hj hx hwx => ?_, fun h1 => absurd h1 hw, fun h1 => absurd h1 hw, fun _ _ => Nat.le_refl _⟩
        have h3 := ho2.1
        unfold ordL at h3
        simp only [Bool.and_eq_true, List.all_eq_true, List.mem_range] at h3
        have h4 := h3.2 q (List.getElem?_eq_some_iff.1 hj).1
        rw [hj, seq_get hc.lt, hj] at h4
        simp only [Option.bind_some, hx, hwx, beq_self_eq_true, Bool.not_true, Bool.false_or, Bool.or_eq_true] at h4
        rcases h4 with h4 | h4
        · exact ⟨j, hj, hanc j h4⟩
        · obtain ⟨p', h5, h6⟩ := late_order hc (q + 1) q j (Nat.lt_succ_self q) hj i h4
          have := late_one hc h6 hp
          omega
      · exact ⟨k0, D0, fun h1 => absurd h1 hw, fun h1 => absurd h1 hw, fun h1 _ => Nat.le_of_not_lt fun h2 => ho2 ⟨h1, h2⟩⟩
  clear D0 hwk
  -- the temporaries that it looks at
  generalize he2 : ((List.range env'.length).map fun t => if t ∈ o.looksAt ops then env'.getD t .undef else .any) = env2
  have l2 : env2.length = env'.length := by rw [← he2]; simp
  have e2 : ∀ t ∈ o.looksAt ops, env2[t]? = env'[t]? := fun t ht => by
    rw [← he2, List.getElem?_map]
    by_cases hlt : t < env'.length
    · rw [List.getElem?_range hlt]
      simp only [Option.map_some, if_pos ht, List.getD_eq_getElem?_getD, List.getElem?_eq_getElem hlt, Option.getD_some]
    · rw [List.getElem?_eq_none (by simpa using hlt), List.getElem?_eq_none (by simpa using hlt)]; rfl
  have hE2 : ∀ t ∈ o.looksAt ops, env2[t]? = (st p).1[t]? := fun t ht => (e2 t ht).trans (hE t ht).1
  have ready : ∀ cut : AH, (∀ id x, cut.get id = some x → (HS L.length st (LP L listed) k).get id = some x ∧ (st p).2.get id = some x) → (∀ id, (HS L.length st (LP L listed) k).ok id → (st p).2.ok id → cut.ok id) → Rel B φ' cut w ∧ ActR cut.ok φ' env2 a := fun cut hsub hok => by
    refine ⟨D.rel.part (fun id x hg => (hsub id x hg).1) fun id x hg => ?_, ⟨?_, fun t x v hx hv => ?_⟩, D.env.2⟩
    · obtain ⟨h1, h2⟩ := hsub id x hg
      exact AO.each.mono (fun y hy => Ids.mono (fun i hi => hok i hi.1 hi.2) (hy.1.and hy.2)) ((D.rel.closed id x h1).and (late_clo hc hst D (by omega) h2 ⟨x, h1⟩))
    · rw [l2]; exact D.env.1.1
    · by_cases ht : t ∈ o.looksAt ops
      · rw [e2 t ht] at hx
        have h1 := D.env.1.2 t x v hx hv
        have h2 := (hE t ht).2 x (by rw [← (hE t ht).1]; exact hx)
        exact h1.shift (p := fun id => (HS L.length st (LP L listed) k).ok id ∧ (st p).2.ok id) (fun id hk => hok id hk.1 hk.2) (fun _ _ => rfl) ((Ids.of_VR h1).and h2)
      · have hlt : t < env'.length := by
          rw [← l2]
          rcases Nat.lt_or_ge t env2.length with h' | h'
          · exact h'
          · rw [List.getElem?_eq_none h'] at hx; cases hx
        rw [← he2, List.getElem?_map, List.getElem?_range hlt] at hx
        simp only [Option.map_some, if_neg ht, Option.some.injEq] at hx
        rw [← hx]; exact .any v
  have hn0p : h.n ≤ (st p).2.n := by rw [hn0]; exact (late_keep hc hst 0 p (Nat.zero_le _) (by omega)).2
  have hHn : ∀ made k', h.n ≤ (HS L.length st made k').n := fun made k' => by
    rw [hn0]; exact (late_keep hc hst 0 _ (Nat.zero_le _) (Nat.le_refl _)).2
  have hlenp : (st p).1.length = env'.length := by rw [late_len hc hst p (by omega), D.len]
  -- what stays to be said of the temporaries
  have hhi : ∀ v, (st (p + 1)).1 = eput (st p).1 o.dst v → ∀ q j x t, L[q]? = some j → ops[j]? = some x → x.dst = some t → LP L (listed.setIfInBounds i true) q → (eput env' o.dst v)[t]? = (st (q + 1)).1[t]? := fun v hv q j x t hj hx hd hm => by
    by_cases hqp : q = p
    · subst hqp
      rw [hp] at hj; cases hj
      rw [ho] at hx; cases hx
      rw [hv, hd, eput_same, eput_same, hlenp]
    · rcases (hmade q).1 hm with h1 | h1
      · rw [eput_other, D.hi q j x t hj hx hd h1]
        intro hd'
        rcases Nat.lt_or_gt_of_ne hqp with h2 | h2
        · exact (hc.pair q p j i x o h2 hj hp hx ho).2.1 t hd hd'
        · exact (hc.pair p q i j o x h2 hp hj ho hx).2.1 t hd' hd
      · exact absurd h1 hqp
  have hlo : ∀ v t, (∀ q j x, L[q]? = some j → ops[j]? = some x → x.dst = some t → ¬ LP L (listed.setIfInBounds i true) q) → (eput env' o.dst v)[t]? = (st 0).1[t]? := fun v t hno => by
    rw [eput_other (fun hd => hno p i o hp ho hd ((hmade p).2 (.inr rfl)))]
    exact D.lo t fun q j x hj hx hd hm => hno q j x hj hx hd ((hmade q).2 (.inl hm))
  have hJ : ∀ v, (st (p + 1)).1 = eput (st p).1 o.dst v → Ids (st (p + 1)).2.ok v → ∀ q j x t y, L[q]? = some j → ops[j]? = some x → x.dst = some t → LP L (listed.setIfInBounds i true) q → (st (q + 1)).1[t]? = some y → Ids (st (q + 1)).2.ok y := fun v hv hid q j x t y hj hx hd hm hy => by
    by_cases hqp : q = p
    · subst hqp
      rw [hp] at hj; cases hj
      rw [ho] at hx; cases hx
      rw [hv, hd, eput_same] at hy
      split at hy
      · cases hy; exact hid
      · cases hy
    · rcases (hmade q).1 hm with h1 | h1
      · exact D.J q j x t y hj hx hd h1 hy
      · exact absurd h1 hqp
  -- what is there of the text's heap is there now, where it is valid in both
  have both : ∀ id x, (st p).2.get id = some x → (HS L.length st (LP L listed) k).ok id → (HS L.length st (LP L listed) k).get id = some x := fun id x hg ⟨y, hy⟩ => by
    have h1 := (HS_some hc hst D.kle hy).1
    rw [(late_keep hc hst p _ (by omega) (Nat.le_refl _)).1 id x hg] at h1
    cases h1; exact hy
  generalize hcut : (AH.of (st p).2.n fun id => if (HS L.length st (LP L listed) k).ok id then (st p).2.get id else none) = cut
  have cget : ∀ id, cut.get id = if (HS L.length st (LP L listed) k).ok id then (st p).2.get id else none := fun id => by
    rw [← hcut, AH.of_get]
    split
    · rfl
    · rename_i hlt
      split
      · cases hg : (st p).2.get id with
        | none => rfl
        | some x => exact absurd (AH.get_lt hg) hlt
      · rfl
  have csub : ∀ id x, cut.get id = some x → (HS L.length st (LP L listed) k).get id = some x ∧ (st p).2.get id = some x := fun id x hg => by
    rw [cget] at hg
    split at hg
    · rename_i hk; exact ⟨both id x hg hk, hg⟩
    · cases hg
  have cok : ∀ id, (HS L.length st (LP L listed) k).ok id → (st p).2.ok id → cut.ok id := fun id h1 ⟨x, hx⟩ => ⟨x, by rw [cget, if_pos h1]; exact hx⟩
  have cn : cut.n = (st p).2.n := by rw [← hcut]; rfl
  -- whatever leaves the heap of what has run as it is, but for draws
  have plain : ∀ v v' φ1 w1, (st (p + 1)).1 = eput (st p).1 o.dst v → (st (p + 1)).2 = (st p).2 → (kindOf P T o.op = .write → k ≤ p ∧ mkW o.op = true) → VR cut.ok φ1 v v' → Rel B φ1 cut w1 → Step φ' cut w φ1 cut w1 → K (a.put o.dst v') w1 := fun v v' φ1 w1 hv hsame hkw hvr r1 s1 => by
    have e : ∀ id, (HS L.length st (LP L (listed.setIfInBounds i true)) k).get id = (HS L.length st (LP L listed) k).get id := fun id => by
      by_cases hlt : id < (st k).2.n
      · rw [HS_low hc hst D.kle hlt, HS_low hc hst D.kle hlt]
      · by_cases hx : ∃ q, k ≤ q ∧ q < L.length ∧ LP L listed q ∧ (st q).2.n ≤ id ∧ id < (st (q + 1)).2.n
        · obtain ⟨q, h1, h2, h3, h4, h5⟩ := hx
          rw [HS_high hc hst hlt h1 h2 ((hmade q).2 (.inl h3)) h4 h5, HS_high hc hst hlt h1 h2 h3 h4 h5]
        · rw [HS_none hc hst hlt (fun q h1 h2 h3 h4 h5 => hx ⟨q, h1, h2, h3, h4, h5⟩), HS_none hc hst hlt (fun q h1 h2 h3 h4 h5 => ?_)]
          rcases (hmade q).1 h3 with h6 | h6
          · exact hx ⟨q, h1, h2, h6, h4, h5⟩
          · subst h6; rw [hsame] at h5; omega
    obtain ⟨r2, s2⟩ := D.rel.merge D.step (fun id x hg => (csub id x hg).1) r1 s1 (φ2 := φ') (hs1 := HS L.length st (LP L (listed.setIfInBounds i true)) k) (fun id x hg => by
      rw [e] at hg
      cases hcg : cut.get id with
      | none => exact .inr ⟨hg, rfl, rfl⟩
      | some y =>
        have := (csub id y hcg).1
        rw [hg] at this; cases this
        exact .inl ⟨rfl, (s1.ext id (AH.get_lt hcg)).symm⟩) (fun id ⟨x, hx⟩ => ⟨⟨x, by rw [e]; exact (csub id x hx).1⟩, (s1.ext id (AH.get_lt hx)).symm⟩) (fun id ⟨x, hx⟩ => ⟨⟨x, by rw [e]; exact hx⟩, rfl⟩) (fun id hi => rfl) (hHn _ _)
    refine hn _ _ φ' (eput env' o.dst v) k ⟨by rw [eput_length, D.len], hhi v hv, hlo v, D.kle, fun q j x hj hx hw hq => (hmade q).2 (.inl (D.w1 q j x hj hx hw hq)), fun q j x hj hx hw hq hm => ?_, hJ v hv ?_, D.cl, fun q j x hj hx hq hm id obj hid hg => ?_, ?_, r2, s2⟩
    · rcases (hmade q).1 hm with h1 | h1
      · exact D.w2 q j x hj hx hw hq h1
      · subst h1; rw [hp] at hj; cases hj; rw [ho] at hx; cases hx; exact (hkw hw).2
    · rw [hsame]
      exact (Ids.of_VR hvr).mono fun id ⟨x, hx⟩ => ⟨x, (csub id x hx).2⟩
    · rcases (hmade q).1 hm with h1 | h1
      · exact D.ce q j x hj hx hq h1 id obj hid hg
      · subst h1; rw [hsame] at hg; have := AH.get_lt hg; omega
    · rw [ok_same e]
      exact put_sound D.env (hvr.mono (fun id ⟨x, hx⟩ => ⟨x, (csub id x hx).1⟩) fun id ⟨x, hx⟩ => (s1.ext id (AH.get_lt hx)).symm) _
  by_cases hw : kindOf P T o.op = .write
  rotate_left
  · -- one that leaves all memory as it is
    have hsame := late_quiet hc hst hp ho hw
    have hh : cut = (st p).2 ∨ kindOf P T o.op = .free ∨ (kindOf P T o.op = .read ∧ ∀ v, aop P (withTab T (keepF callF)) (st p).1 o.op (st p).2 = some (v, (st p).2) → aop P (withTab T (keepF callF)) (st p).1 o.op cut = some (v, cut)) := by
      cases hk2 : kindOf P T o.op with
      | write => exact absurd hk2 hw
      | free => exact .inr (.inl rfl)
      | read =>
        right; right
        have hop := hc.op p i o hp ho
        unfold opK at hop
        rw [hk2] at hop
        simp only [Bool.or_eq_true] at hop
        rcases hop with (hop | hop) | hop
        · -- it loads from a block that was there
          unfold rootL at hop
          split at hop
          rotate_left
          · cases hop
          rename_i t a1 hop2
          rw [List.any_eq_true] at hop
          obtain ⟨a0, ha0, hop⟩ := hop
          refine ⟨rfl, (load_reads (P := P) (T := T) ⟨t, .tmp a1, hop2, fun v hv => ?_⟩).2⟩
          obtain ⟨id0, hid0⟩ := hrt a0 ha0
          have hd' : ∀ (i j : Nat) (x y : Oper), i < j → (seqOf ops L)[i]? = some x → (seqOf ops L)[j]? = some y → ∀ d, x.dst = some d → y.dst ≠ some d := fun i' j' x y hij hx hy => by
            rw [seq_get hc.lt] at hx hy
            obtain ⟨i1, h1, h2⟩ := Option.bind_eq_some_iff.1 hx
            obtain ⟨j1, h3, h4⟩ := Option.bind_eq_some_iff.1 hy
            exact (hc.pair i' j' i1 j1 x y hij h1 h3 h2 h4).2.1
          have hst' : ∀ i o, (seqOf ops L)[i]? = some o → astep P (withTab T (keepF callF)) ops o (st i).1 (st i).2 = some (st (i + 1)) := fun q x hx => by
            rw [seq_get hc.lt] at hx
            obtain ⟨j, h1, h2⟩ := Option.bind_eq_some_iff.1 hx
            exact hst q j x h1 h2
          have hpz : p ≤ (seqOf ops L).size := by
            have : (seqOf ops L)[p]? = some o := by rw [seq_get hc.lt, hp]; exact ho
            exact Nat.le_of_lt (Array.getElem?_eq_some_iff.1 this).1
          simp only [evalOp] at hv ⊢
          rcases root_ok hst' hd' hid0 _ a1 p hpz hop with e | e | ⟨off, e⟩ | ⟨off, n, sz, e⟩
          · rw [e] at hv; cases hv
          · rw [e] at hv; cases hv
          rotate_left
          · rw [e] at hv; cases hv
          have hk0 : (st 0).2.ok id0 := by
            rcases hid0 with e0 | e0 | ⟨off0, e0⟩ | ⟨off0, n0, sz0, e0⟩
            · exfalso
              rcases root_ok hst' hd' (id0 := id0 + 1) (.inl e0) _ a1 p hpz hop with e3 | e3 | ⟨off3, e3⟩ | ⟨off3, n3, sz3, e3⟩ <;> rw [e] at e3 <;> cases e3
            · exfalso
              rcases root_ok hst' hd' (id0 := id0 + 1) (.inr (.inl e0)) _ a1 p hpz hop with e3 | e3 | ⟨off3, e3⟩ | ⟨off3, n3, sz3, e3⟩ <;> rw [e] at e3 <;> cases e3
            · cases hg : (st 0).1[a0]? with
              | none => rw [List.getD_eq_getElem?_getD, hg] at e0; cases e0
              | some y =>
                rw [List.getD_eq_getElem?_getD, hg] at e0
                simp only [Option.getD_some] at e0
                have := J0 a0 y hg
                rw [e0] at this
                cases this with | ptr _ _ hk => exact hk
            · cases hg : (st 0).1[a0]? with
              | none => rw [List.getD_eq_getElem?_getD, hg] at e0; cases e0
              | some y =>
                rw [List.getD_eq_getElem?_getD, hg] at e0
                simp only [Option.getD_some] at e0
                have := J0 a0 y hg
                rw [e0] at this
                cases this with | sl _ _ _ _ hk => exact hk
          obtain ⟨x0, hx0⟩ := hk0
          have hpx := (late_keep hc hst 0 p (Nat.zero_le _) (by omega)).1 id0 x0 hx0
          have hkx := (late_keep hc hst 0 k (Nat.zero_le _) D.kle).1 id0 x0 hx0
          have hcx : cut.get id0 = some x0 := by
            rw [cget, if_pos ⟨x0, by rw [HS_low hc hst D.kle (AH.get_lt hkx)]; exact hkx⟩]; exact hpx
          rw [e] at hv ⊢
          simp only [aload] at hv ⊢
          rw [hcx, ← hpx]; exact hv
        · -- it reads what its arguments name
          obtain ⟨c, f, rk, hop2, hcal, hT⟩ := readC_ok hop
          refine ⟨rfl, fun v hv => ?_⟩
          rw [hop2] at hv ⊢
          simp only [aop, acall1, hcal, evalOp, List.nil_append, List.append_nil, withTab, hT, PK.run] at hv ⊢
          obtain ⟨_, e3⟩ := map_pair hv
          rw [hL f rk hT _ _ cut v e3 fun x hx id hid q hq => ?_]
          · rfl
          obtain ⟨y, hy, rfl⟩ := List.mem_map.1 hx
          rw [cget, if_pos ?_]
          · exact hq
          cases y with
          | tmp t =>
            have ht : t ∈ o.looksAt ops := looks_op (x := .tmp t) (by rw [hop2]; simp only [Op.operands]; unfold Call.operands; rw [hcal]; simpa using hy) rfl
            have e1 := (hE t ht).1
            simp only [evalOp, List.getD_eq_getElem?_getD] at hid
            rw [← e1] at hid
            cases hx' : env'[t]? with
            | none => rw [hx'] at hid; cases hid
            | some z =>
              rw [hx'] at hid
              have hlt : t < env'.length := by
                rcases Nat.lt_or_ge t env'.length with h1 | h1
                · exact h1
                · rw [List.getElem?_eq_none h1] at hx'; cases hx'
              have hlen : env'.length = a.tmps.toList.length := D.env.1.1
              exact named_ok (D.env.1.2 t _ _ hx' (List.getElem?_eq_getElem (by rw [← hlen]; exact hlt))) hid
          | const w => exact (named_val hid).elim
          | global w => cases hid
          | func w => cases hid
        · -- it loads, in order with all that write
          have hpk := hkp.2.2 hop hk2
          unfold ordL at hop
          rw [Bool.and_eq_true] at hop
          have hld := hop.1
          unfold isLd at hld
          split at hld
          rotate_left
          · cases hld
          rename_i t a1 hop2
          refine ⟨rfl, (load_reads (P := P) (T := T) ⟨t, a1, hop2, fun v hv => aload_ext hv fun id x hg => ?_⟩).2⟩
          have hkx := (late_keep hc hst p k hpk D.kle).1 id x hg
          rw [cget, if_pos ⟨x, by rw [HS_low hc hst D.kle (AH.get_lt hkx)]; exact hkx⟩]; exact hg
    obtain ⟨v, hv, hs⟩ := step_again (hst p i o hp ho) hE2 hh
    rw [if_neg hw] at hs
    obtain ⟨r, he⟩ := ready cut csub cok
    refine step_by hC ho hs r he fun v2 v' φ1 w1 hve hvr r1 s1 => ?_
    exact plain v2 v' φ1 w1 (by rw [hv]; exact eput_inj (by rw [l2, hlenp]) hve) hsame (fun h1 => absurd h1 hw) hvr r1 s1
  · have hpk := hkp.2.1 hw
    obtain ⟨v, hv, hs⟩ := step_again (hst p i o hp ho) hE2 (.inl rfl)
    rw [if_pos hw] at hs
    by_cases hm : mkW o.op = true
    · -- a maker
      obtain ⟨r, he⟩ := ready cut csub cok
      rcases mk_astep hm hs cn with ⟨e1, e3⟩ | ⟨obj, e1, e3⟩
      · refine step_by hC ho e3 r he fun v2 v' φ1 w1 hve hvr r1 s1 => ?_
        exact plain v2 v' φ1 w1 (by rw [hv]; exact eput_inj (by rw [l2, hlenp]) hve) e1 (fun _ => ⟨hpk, hm⟩) hvr r1 s1
      · refine step_by hC ho e3 r he fun v2 v' φ1 w1 hve hvr r1 s1 => ?_
        have hv2 : (st (p + 1)).1 = eput (st p).1 o.dst v2 := by rw [hv]; exact eput_inj (by rw [l2, hlenp]) hve
        have hnp1 : (st (p + 1)).2.n = (st p).2.n + 1 := by rw [e1, AH.push_n]
        have hnew : (st (p + 1)).2.get (st p).2.n = some obj := by rw [e1, AH.get_push_new]
        have hnk : (st k).2.n ≤ (st p).2.n := (late_keep hc hst k p hpk (by omega)).2
        have h1get : ∀ id, id ≠ (st p).2.n → (cut.push obj).get id = cut.get id := fun id hid => AH.get_push_ne (by rw [cn]; exact hid)
        have h1new : (cut.push obj).get (st p).2.n = some obj := by rw [← cn, AH.get_push_new]
        have other : ∀ q, LP L listed q → q < L.length → (st q).2.n ≤ (st p).2.n → (st p).2.n < (st (q + 1)).2.n → False := fun q h1 h2 h3 h4 => by
          rcases Nat.lt_trichotomy q p with h5 | h5 | h5
          · have := (late_keep hc hst (q + 1) p (by omega) (by omega)).2; omega
          · subst h5; exact hnp h1
          · have := (late_keep hc hst (p + 1) q (by omega) (by omega)).2; omega
        have hnone : (HS L.length st (LP L listed) k).get (st p).2.n = none := HS_none hc hst (by omega) fun q h1 h2 h3 h4 h5 => other q h3 h2 h4 h5
        have e : ∀ id, id ≠ (st p).2.n → (HS L.length st (LP L (listed.setIfInBounds i true)) k).get id = (HS L.length st (LP L listed) k).get id := fun id hid => by
          by_cases hlt : id < (st k).2.n
          · rw [HS_low hc hst D.kle hlt, HS_low hc hst D.kle hlt]
          · by_cases hx : ∃ q, k ≤ q ∧ q < L.length ∧ LP L listed q ∧ (st q).2.n ≤ id ∧ id < (st (q + 1)).2.n
            · obtain ⟨q, h1, h2, h3, h4, h5⟩ := hx
              rw [HS_high hc hst hlt h1 h2 ((hmade q).2 (.inl h3)) h4 h5, HS_high hc hst hlt h1 h2 h3 h4 h5]
            · rw [HS_none hc hst hlt (fun q h1 h2 h3 h4 h5 => hx ⟨q, h1, h2, h3, h4, h5⟩), HS_none hc hst hlt (fun q h1 h2 h3 h4 h5 => ?_)]
              rcases (hmade q).1 h3 with h6 | h6
              · exact hx ⟨q, h1, h2, h6, h4, h5⟩
              · subst h6; omega
        have enew : (HS L.length st (LP L (listed.setIfInBounds i true)) k).get (st p).2.n = some obj := by
          rw [HS_high hc hst (by omega) hpk hpl ((hmade p).2 (.inr rfl)) (Nat.le_refl _) (by omega)]
          exact (late_keep hc hst (p + 1) _ (by omega) (Nat.le_refl _)).1 _ _ hnew
        have h1ok : ∀ id, (cut.push obj).ok id → (st (p + 1)).2.ok id := fun id ⟨x, hx⟩ => by
          by_cases hid : id = (st p).2.n
          · subst hid; exact ⟨obj, hnew⟩
          · rw [h1get id hid] at hx
            exact ⟨x, by rw [e1, AH.get_push_ne hid]; exact (csub id x hx).2⟩
        obtain ⟨r2, s2⟩ := D.rel.merge D.step (fun id x hg => (csub id x hg).1) r1 s1 (φ2 := fun id => if id = (st p).2.n then φ1 id else φ' id) (hs1 := HS L.length st (LP L (listed.setIfInBounds i true)) k) (fun id x hg => by
          by_cases hid : id = (st p).2.n
          · subst hid
            rw [enew] at hg; cases hg
            exact .inl ⟨h1new, if_pos rfl⟩
          · rw [e id hid] at hg
            simp only [if_neg hid]
            cases hcg : cut.get id with
            | none => exact .inr ⟨hg, rfl, trivial⟩
            | some y =>
              have := (csub id y hcg).1
              rw [hg] at this; cases this
              exact .inl ⟨by rw [h1get id hid]; exact hcg, (s1.ext id (AH.get_lt hcg)).symm⟩) (fun id ⟨x, hx⟩ => by
          by_cases hid : id = (st p).2.n
          · subst hid; exact ⟨⟨obj, enew⟩, if_pos rfl⟩
          · rw [h1get id hid] at hx
            simp only [if_neg hid]
            exact ⟨⟨x, by rw [e id hid]; exact (csub id x hx).1⟩, (s1.ext id (AH.get_lt hx)).symm⟩) (fun id ⟨x, hx⟩ => by
          have hid : id ≠ (st p).2.n := fun e' => by rw [e', hnone] at hx; cases hx
          simp only [if_neg hid]
          exact ⟨⟨x, by rw [e id hid]; exact hx⟩, trivial⟩) (fun id hi => if_neg (by omega)) (hHn _ _)
        refine hn _ _ _ (eput env' o.dst v2) k ⟨by rw [eput_length, D.len], hhi v2 hv2, hlo v2, D.kle, fun q j x hj hx hw hq => (hmade q).2 (.inl (D.w1 q j x hj hx hw hq)), fun q j x hj hx hw hq hmm => ?_, hJ v2 hv2 ((Ids.of_VR hvr).mono h1ok), D.cl, fun q j x hj hx hq hmm id obj' hid hg => ?_, ?_, r2, s2⟩
        · rcases (hmade q).1 hmm with h1 | h1
          · exact D.w2 q j x hj hx hw hq h1
          · subst h1; rw [hp] at hj; cases hj; rw [ho] at hx; cases hx; exact hm
        · rcases (hmade q).1 hmm with h1 | h1
          · exact D.ce q j x hj hx hq h1 id obj' hid hg
          · subst h1
            have : id = (st q).2.n := by have := AH.get_lt hg; omega
            subst this
            rw [hnew] at hg; cases hg
            exact AO.each.mono (fun x hx => hx.mono h1ok) (r1.closed _ _ h1new)
        · refine put_sound (D.env.mono (fun id ⟨x, hx⟩ => ?_) fun id ⟨x, hx⟩ => ?_) (hvr.mono (fun id ⟨x, hx⟩ => ?_) fun id ⟨x, hx⟩ => ?_) _
          · have hid : id ≠ (st p).2.n := fun e' => by rw [e', hnone] at hx; cases hx
            exact ⟨x, by rw [e id hid]; exact hx⟩
          · have hid : id ≠ (st p).2.n := fun e' => by rw [e', hnone] at hx; cases hx
            exact if_neg hid
          · by_cases hid : id = (st p).2.n
            · subst hid; exact ⟨obj, enew⟩
            · rw [h1get id hid] at hx
              exact ⟨x, by rw [e id hid]; exact (csub id x hx).1⟩
          · by_cases hid : id = (st p).2.n
            · exact if_pos hid
            · rw [h1get id hid] at hx
              simp only [if_neg hid]
              exact (s1.ext id (AH.get_lt hx)).symm
    · -- a call
      have hm : mkW o.op = false := by cases h1 : mkW o.op with
        | false => rfl
        | true => exact absurd h1 hm
      obtain rfl := hkp.1 hw hm
      have hlow : ∀ id, id < (st k).2.n → (HS L.length st (LP L listed) k).get id = (st k).2.get id := fun id hlt => HS_low hc hst D.kle hlt
      obtain ⟨r, he⟩ := ready (st k).2 (fun id x hg => ⟨by rw [hlow id (AH.get_lt hg)]; exact hg, hg⟩) (fun id _ h2 => h2)
      refine step_by hC ho hs r he fun v2 v' φ1 w1 hve hvr r1 s1 => ?_
      have hv2 : (st (k + 1)).1 = eput (st k).1 o.dst v2 := by rw [hv]; exact eput_inj (by rw [l2, hlenp]) hve
      have hkeep := late_keep hc hst k (k + 1) (by omega) (by omega)
      have gap : ∀ q, k ≤ q → q < L.length → LP L listed q → (st (k + 1)).2.n ≤ (st q).2.n := fun q h1 h2 h3 => by
        rcases Nat.eq_or_lt_of_le h1 with h4 | h4
        · subst h4; exact absurd h3 hnp
        · exact (late_keep hc hst (k + 1) q h4 (by omega)).2
      have hmid : ∀ id, (st k).2.n ≤ id → id < (st (k + 1)).2.n → (HS L.length st (LP L listed) k).get id = none := fun id h1 h2 => HS_none hc hst (by omega) fun q h3 h4 h5 h6 h7 => by
        have := gap q h3 h4 h5; omega
      have e : ∀ id, (st (k + 1)).2.n ≤ id → (HS L.length st (LP L (listed.setIfInBounds i true)) (k + 1)).get id = (HS L.length st (LP L listed) k).get id := fun id hid => by
        by_cases hx : ∃ q, k ≤ q ∧ q < L.length ∧ LP L listed q ∧ (st q).2.n ≤ id ∧ id < (st (q + 1)).2.n
        · obtain ⟨q, h1, h2, h3, h4, h5⟩ := hx
          have hne : q ≠ k := fun e' => by subst e'; exact hnp h3
          rw [HS_high hc hst (by omega) (by omega : k + 1 ≤ q) h2 ((hmade q).2 (.inl h3)) h4 h5, HS_high hc hst (by omega) h1 h2 h3 h4 h5]
        · rw [HS_none hc hst (by omega) (fun q h1 h2 h3 h4 h5 => ?_), HS_none hc hst (by omega) (fun q h1 h2 h3 h4 h5 => hx ⟨q, h1, h2, h3, h4, h5⟩)]
          rcases (hmade q).1 h3 with h6 | h6
          · exact hx ⟨q, by omega, h2, h6, h4, h5⟩
          · subst h6; omega
      have elow : ∀ id, id < (st (k + 1)).2.n → (HS L.length st (LP L (listed.setIfInBounds i true)) (k + 1)).get id = (st (k + 1)).2.get id := fun id hlt => HS_low hc hst (by omega) hlt
      obtain ⟨r2, s2⟩ := D.rel.merge D.step (cut := (st k).2) (fun id x hg => by rw [hlow id (AH.get_lt hg)]; exact hg) r1 s1 (φ2 := fun id => if id < (st (k + 1)).2.n then φ1 id else φ' id) (hs1 := HS L.length st (LP L (listed.setIfInBounds i true)) (k + 1)) (fun id x hg => by
        by_cases hid : id < (st (k + 1)).2.n
        · rw [elow id hid] at hg
          exact .inl ⟨hg, if_pos hid⟩
        · rw [e id (by omega)] at hg
          refine .inr ⟨hg, ?_, if_neg hid⟩
          cases hcg : (st k).2.get id with
          | none => rfl
          | some y => have := AH.get_lt hcg; omega) (fun id ⟨x, hx⟩ => by
        have hid := AH.get_lt hx
        exact ⟨⟨x, by rw [elow id hid]; exact hx⟩, if_pos hid⟩) (fun id ⟨x, hx⟩ => by
        by_cases hid : id < (st (k + 1)).2.n
        · by_cases hid2 : id < (st k).2.n
          · rw [hlow id hid2] at hx
            simp only [if_pos hid]
            exact ⟨⟨x, by rw [elow id hid]; exact hkeep.1 id x hx⟩, s1.ext id hid2⟩
          · rw [hmid id (by omega) hid] at hx; cases hx
        · simp only [if_neg hid]
          exact ⟨⟨x, by rw [e id (by omega)]; exact hx⟩, trivial⟩) (fun id hi => by
        have h1 : id < (st k).2.n := by omega
        simp only [if_pos (show id < (st (k + 1)).2.n by omega)]
        exact s1.ext id h1) (hHn _ _)
      refine hn _ _ _ (eput env' o.dst v2) (k + 1) ⟨by rw [eput_length, D.len], hhi v2 hv2, hlo v2, hpl, fun q j x hj hx hw hq => ?_, fun q j x hj hx hw hq hmm => ?_, hJ v2 hv2 (Ids.of_VR hvr), fun q hq => ?_, fun q j x hj hx hq hmm id obj' hid hg => ?_, ?_, r2, s2⟩
      · rcases Nat.lt_or_ge q k with h1 | h1
        · exact (hmade q).2 (.inl (D.w1 q j x hj hx hw h1))
        · exact (hmade q).2 (.inr (by omega))
      · rcases (hmade q).1 hmm with h1 | h1
        · exact D.w2 q j x hj hx hw (by omega) h1
        · omega
      · rcases Nat.lt_or_ge k q with h1 | h1
        · obtain rfl : q = k + 1 := by omega
          exact r1.closed
        · exact D.cl q h1
      · rcases (hmade q).1 hmm with h1 | h1
        · exact D.ce q j x hj hx (by omega) h1 id obj' hid hg
        · omega
      · refine put_sound (D.env.mono (fun id ⟨x, hx⟩ => ?_) fun id ⟨x, hx⟩ => ?_) (hvr.mono (fun id ⟨x, hx⟩ => ⟨x, by rw [elow id (AH.get_lt hx)]; exact hx⟩) fun id ⟨x, hx⟩ => if_pos (AH.get_lt hx)) _
        · by_cases hid : id < (st (k + 1)).2.n
          · by_cases hid2 : id < (st k).2.n
            · rw [hlow id hid2] at hx
              exact ⟨x, by rw [elow id hid]; exact hkeep.1 id x hx⟩
            · rw [hmid id (by omega) hid] at hx; cases hx
          · exact ⟨x, by rw [e id (by omega)]; exact hx⟩
        · by_cases hid : id < (st (k + 1)).2.n
          · by_cases hid2 : id < (st k).2.n
            · simp only [if_pos hid]; exact s1.ext id hid2
            · rw [hmid id (by omega) hid] at hx; cases hx
          · exact if_neg hid

theorem late_end (hn0 : h.n = (st 0).2.n) {listed : Array Bool} {a : Act} {w : World} {φ' : Nat → Loc} {env' : List AV} {k : Nat} (D : DKB P B T ops L st φ h w0 (LP L listed) a w φ' env' k) (hall : ∀ (q j : Nat), L[q]? = some j → Li listed j) : Post B φ h w0 (st L.length).1 (st L.length).2 a w := by
  have D := D.advTo hc hst hn0 L.length (Nat.le_refl _) (L.length - k) k (by have := D.kle; omega) fun p j o _ _ hj _ _ => ⟨j, hj, hall p j hj⟩
  have e : ∀ id, (HS L.length st (LP L listed) L.length).get id = (st L.length).2.get id := fun id => by
    by_cases hlt : id < (st L.length).2.n
    · exact HS_low hc hst (Nat.le_refl _) hlt
    · rw [HS_none hc hst hlt (fun q h1 h2 => by omega)]
      cases hg : (st L.length).2.get id with
      | none => rfl
      | some x => exact absurd (AH.get_lt hg) hlt
  have henv : env' = (st L.length).1 := by
    apply List.ext_getElem?
    intro t
    by_cases hw : ∃ (q j : Nat) (x : Oper), L[q]? = some j ∧ ops[j]? = some x ∧ x.dst = some t
    · obtain ⟨q, j, x, hj, hx, hd⟩ := hw
      have hql := (List.getElem?_eq_some_iff.1 hj).1
      rw [D.hi q j x t hj hx hd ⟨j, hj, hall q j hj⟩, late_env hst (q + 1) L.length (by omega) (Nat.le_refl _) hc.lt fun r j' o' h1 h2 h3 h4 => (hc.pair q r j j' x o' (by omega) hj h3 hx h4).2.1 t hd]
    · rw [D.lo t fun q j x hj hx hd => absurd ⟨q, j, x, hj, hx, hd⟩ hw, late_env hst 0 L.length (Nat.zero_le _) (Nat.le_refl _) hc.lt fun r j' o' h1 h2 h3 h4 hd => hw ⟨r, j', o', h3, h4, hd⟩]
  subst henv
  refine ⟨φ', by rw [← ok_same e]; exact D.env, D.rel.same e, D.step.same e ?_⟩
  rw [hn0]; exact (late_keep hc hst 0 _ (Nat.zero_le _) (Nat.le_refl _)).2

theorem late_any (hL : PTabMono T) (hC : CallOK P B (withTab T (keepF callF))) (hn0 : h.n = (st 0).2.n) (J0 : ∀ (t : Nat) (x : AV), (st 0).1[t]? = some x → Ids (st 0).2.ok x) (hrt : ∀ a0 ∈ as, ∃ id, RootV id ((st 0).1.getD a0 .undef)) {Q : Exit → Act → World → Prop} (hQ : ∀ a' w', Post B φ h w0 (st L.length).1 (st L.length).2 a' w' → Q .normal a' w') :
    ∀ (fuel : Nat) (listed : Array Bool) (a : Act) (w : World), listed.toList.count false ≤ fuel → listed.size = ops.size → (∀ j o, ops[j]? = some o → Li listed j → ∀ e ∈ o.after, Region.binds .any e = true → Li listed e.on) → (∃ φ' env' k, DKB P B T ops L st φ h w0 (LP L listed) a w φ' env' k) → wpAny P .any ops Q fuel listed a w
  | 0, listed, a, w, hf, hsz, hcl, ⟨φ', env', k, D⟩ => by
    have hall : ∀ j, j < ops.size → Li listed j := fun j hj => by
      have hlt : j < listed.size := by rw [hsz]; exact hj
      have h0 : listed.toList.count false = 0 := by omega
      rw [List.count_eq_zero] at h0
      have : listed[j] ≠ false := fun e => h0 (by rw [← e]; simp)
      unfold Li
      rw [Array.getD_eq_getD_getElem?, Array.getElem?_eq_getElem hlt]
      simpa using this
    refine ⟨?_, hQ _ _ (late_end hc hst hn0 D fun q j hj => hall j (hc.lt j (List.mem_of_getElem? hj)))⟩
    apply List.eq_nil_iff_forall_not_mem.2
    intro j hj
    obtain ⟨h1, h2⟩ := ready_unlisted hj
    exact h2 (hall j (by rw [← hsz]; exact h1))
  | fuel + 1, listed, a, w, hf, hsz, hcl, ⟨φ', env', k, D⟩ => by
    refine ⟨fun hr => hQ _ _ (late_end hc hst hn0 D fun q j hj => late_all hc hr hsz (q + 1) q j (Nat.lt_succ_self q) hj), fun i hi => ?_⟩
    obtain ⟨h1, h2⟩ := ready_unlisted hi
    obtain ⟨_, o, ho, hedges⟩ := mem_ready.1 hi
    refine late_step hc hst hL hC hn0 J0 hrt hsz hcl D hi fun a' w' φ2 env2 k2 D' => late_any hL hC hn0 J0 hrt hQ fuel _ a' w' (count_set h1 h2 hf) (by rw [Array.size_setIfInBounds]; exact hsz) (fun j x hx hl e hee hb => ?_) ⟨φ2, env2, k2, D'⟩
    have hli := li_set (listed := listed) h1
    rw [hli]
    rcases (hli j).1 hl with rfl | hl'
    · rw [ho] at hx; cases hx
      exact .inr (hedges e hee hb)
    · exact .inr (hcl j x hx hl' e hee hb)
end

theorem drawn_late (hm : P.follows .mixedOrders = true) (hT : PTabOK P B T) (hL : PTabMono T) (hC : CallOK P B (keepF callF)) {as : List Nat} {ops : Array Oper} {env env' : List AV} {h h' : AH} (hs : aops P (withTab T (keepF callF)) ops (seqOf ops (lateL ops)).toList env h = some (env', h')) (hd : dKx P T as ops = true)
    (hrt : ∀ a ∈ as, ∃ id, RootV id (env.getD a .undef)) {φ : Nat → Loc} {a : Act} {w : World} {Q : Exit → Act → World → Prop} {id : Nat} (r : Rel B φ h w) (he : ActR h.ok φ env a) (hn : ∀ a' w', Post B φ h w env' h' a' w' → Q .normal a' w') : (Code.region id ops true).wp P Q a w := by
  have hc := kchk hd
  obtain ⟨st, e1, e2, e3⟩ := run_states (ops := seqOf ops (lateL ops)) (seqOf ops (lateL ops)).toList 0 env h (env', h') rfl hs
  have e2 := e2 (Nat.zero_le _)
  have hsz : (seqOf ops (lateL ops)).size = (lateL ops).length := by
    have hq : ∀ q, (seqOf ops (lateL ops))[q]? = none ↔ (lateL ops)[q]? = none := fun q => by
      rw [seq_get hc.lt]
      constructor
      · intro h1
        cases h2 : (lateL ops)[q]? with
        | none => rfl
        | some j => rw [h2] at h1; rw [Option.bind_some, Array.getElem?_eq_getElem (hc.lt j (List.mem_of_getElem? h2))] at h1; cases h1
      · intro h1; rw [h1]; rfl
    have h1 := (hq (lateL ops).length).2 (List.getElem?_eq_none (Nat.le_refl _))
    have h2 := (hq (seqOf ops (lateL ops)).size).1 (Array.getElem?_eq_none (Nat.le_refl _))
    have h3 : (seqOf ops (lateL ops)).size ≤ (lateL ops).length := by simpa using h1
    have h4 : (lateL ops).length ≤ (seqOf ops (lateL ops)).size := by simpa using h2
    omega
  rw [hsz] at e2
  have hst : ∀ q j o, (lateL ops)[q]? = some j → ops[j]? = some o → astep P (withTab T (keepF callF)) ops o (st q).1 (st q).2 = some (st (q + 1)) := fun q j o hj ho => e3 q o (Nat.zero_le _) (by rw [seq_get hc.lt, hj]; exact ho)
  have J0 : ∀ (t : Nat) (x : AV), (st 0).1[t]? = some x → Ids (st 0).2.ok x := fun t x hx => by
    rw [e1] at hx ⊢
    have hlt : t < env.length := by
      rcases Nat.lt_or_ge t env.length with h1 | h1
      · exact h1
      · rw [List.getElem?_eq_none h1] at hx; cases hx
    have hlen : env.length = a.tmps.toList.length := he.1.1
    exact Ids.of_VR (he.1.2 t _ _ hx (List.getElem?_eq_getElem (by rw [← hlen]; exact hlt)))
  have hnl : ∀ j, ¬ Li (Array.replicate ops.size false) j := fun j hl => by
    unfold Li at hl
    rw [Array.getD_eq_getD_getElem?] at hl
    by_cases hj : j < ops.size <;> simp [hj] at hl
  have hnm : ∀ q, ¬ LP (lateL ops) (Array.replicate ops.size false) q := fun q ⟨j, _, hl⟩ => hnl j hl
  have e0 : ∀ id, h.get id = (HS (lateL ops).length st (LP (lateL ops) (Array.replicate ops.size false)) 0).get id := fun id => by
    by_cases hlt : id < (st 0).2.n
    · rw [HS_low hc hst (Nat.zero_le _) hlt, e1]
    · rw [HS_none hc hst hlt (fun q _ _ hq => absurd hq (hnm q))]
      cases hg : h.get id with
      | none => rfl
      | some x => rw [e1] at hlt; exact absurd (AH.get_lt hg) hlt
  refine wp_region_any hm ?_
  refine late_any (φ := φ) (h := h) (w0 := w) hc hst hL (withTab_ok hT hC) (by rw [e1]) J0 (by rw [e1]; exact hrt) (fun a' w' hp => hn a' w' (by rw [e2] at hp; exact hp)) _ _ _ _ (by simp) (by simp) (fun j o ho hl => absurd hl (hnl j)) ⟨φ, env, 0, ⟨by rw [e1], fun q j o t _ _ _ hq => absurd hq (hnm q), fun t _ => by rw [e1], Nat.zero_le _, fun q j o _ _ _ hq => by omega, fun q j o _ _ _ _ hq => absurd hq (hnm q), fun q j o t x _ _ _ hq => absurd hq (hnm q), fun q hq => ?_, fun q j o _ _ _ hq => absurd hq (hnm q), by rw [← ok_same e0]; exact he, ?_, ?_⟩⟩
  · obtain rfl : q = 0 := by omega
    rw [e1]; exact r.closed
  · exact (r.drew _).same e0
  · refine (Step.drew φ h w _ (by first | exact Nat.le_refl _ | exact Nat.le_succ _ | (simp; done) | omega)).same e0 ?_
    have := (late_keep hc hst 0 _ (Nat.zero_le _) (Nat.le_refl _)).2
    rw [e1] at this; exact this

theorem drawnOf_ok (hm : P.follows .mixedOrders = true) (hT : PTabOK P B T) (hL : PTabMono T) : ∀ callF, CallOK P B callF → DrawnOK P B (drawnOf P T callF) := by
  intro callF hC id ops env env' h h' hs φ a w Q r he hn
  unfold drawnOf at hs
  split at hs
  · split at hs
    · rename_i hd
      obtain ⟨as, hd, hrt⟩ := hd
      exact drawn_late hm hT hL (keepF_ok hC) hs hd hrt r he hn
    · cases hs
  · split at hs
    · rename_i hd
      exact drawn_core hm hT hL hC hs hd (fun st e1 hst => fun hn ho hi hk => steady_load hst (dchk hd).dst hn (fun t id off hv => by rw [e1] at hv ⊢; exact AH.ok_lt (ptr_ok he hv)) ho hi hk) r he hn
    · split at hs
      · rename_i hd
        obtain ⟨as, bs, hd, hbs⟩ := hd
        exact drawn_core hm hT hL (keepF_ok hC) hs hd (fun st e1 hst => ⟨fun hn ho hi hk => root_load hst (dchk hd).dst hn (fun a0 ha0 => by
          obtain ⟨i0, e0, hb⟩ := hbs a0 ha0
          refine ⟨i0, by rw [e1]; exact e0, by rw [e1]; exact hb, ?_⟩
          rw [e1]
          have hv : ∀ x, env.getD a0 .undef = x → hidM x = some i0 → ∃ o, h.get i0 = some o := fun x e hx => by
            rw [List.getD_eq_getElem?_getD] at e
            cases hy : env[a0]? with
            | none => rw [hy] at e; subst e; cases hx
            | some y =>
              rw [hy] at e; simp only [Option.getD_some] at e; subst e
              have hlt : a0 < env.length := by
                rcases Nat.lt_or_ge a0 env.length with h1 | h1
                · exact h1
                · rw [List.getElem?_eq_none h1] at hy; cases hy
              have hlen : env.length = a.tmps.toList.length := he.1.1
              exact named_ok (he.1.2 a0 _ _ hy (List.getElem?_eq_getElem (by rw [← hlen]; exact hlt))) hx
          rcases e0 with e | e | ⟨off, e⟩ | ⟨off, n, sz, e⟩
          · exact .inl fun id => .inl e
          · exact .inl fun id => .inr (.inl e)
          · exact .inr (hv _ e rfl)
          · exact .inr (hv _ e rfl)) ho hi hk, fun hn i k => keep_all hst (dchk hd).dst hn i k⟩) r he hn
      · cases hs

end
/-! M19 -/
section
set_option linter.unusedSimpArgs false
set_option linter.unusedVariables false
open Go Go.RowKit

variable {P : Program} {B : Nat}

def handsBack : List AV → AH → Option (AV × AH) := fun args h =>
  match args with
  | [x] => some (x, h)
  | _ => none

theorem HookOK.noEscape {f : FuncId} {fn : Func} (hf : P.funcs[f]? = some fn) (hname : (fn.name == "runtime.NumGoroutine") = false) (hb : fn.body.isNone = true) (hn : (Extern.findNext fn).isNone = true)
    (he : Extern.find fn = some Extern.AbiNoEscape.same) : HookOK P B f handsBack := by
  intro args h v h' hr φ w args' r ha
  unfold handsBack at hr
  split at hr
  · cases hr
    obtain ⟨x', rfl, hx⟩ := one_arg ha
    have hn' : Extern.findNext fn = none := by simpa using hn
    have := run_callFunc_extern hf hname hb hn' he #[x'] w
    rw [show ([x'] : List Value).toArray = #[x'] from rfl, this, Lib.run_noEscape]
    exact Res.pure r hx
  · cases hr

end
/-! M20 -/
section
set_option linter.unusedSimpArgs false
set_option linter.unusedVariables false
open Go Go.RowKit

variable {P : Program} {T : PTab} {cf : CallF} {D : Array Oper → List AV → AH → Option (List AV × AH)} {fuel : Nat} {env : List AV} {h : AH}

def AW (r : ARes) (Q : AX → List AV → AH → Prop) : Prop :=
  match r with
  | some t => Q t.1 t.2.1 t.2.2
  | none => False
def AE (r : Option (List AV × AH)) (Q : List AV → AH → Prop) : Prop :=
  match r with
  | some t => Q t.1 t.2
  | none => False
def AR (r : Option (AV × AH)) (Q : AV → AH → Prop) : Prop :=
  match r with
  | some t => Q t.1 t.2
  | none => False
def AVal {α : Type} (r : Option α) (Q : α → Prop) : Prop :=
  match r with
  | some v => Q v
  | none => False

theorem AW.out {r : ARes} {Q : AX → List AV → AH → Prop} (h : AW r Q) : ∃ x e h, r = some (x, e, h) ∧ Q x e h := by
  cases r with
  | none => exact h.elim
  | some t => exact ⟨_, _, _, rfl, h⟩
theorem AR.out {r : Option (AV × AH)} {Q : AV → AH → Prop} (h : AR r Q) : ∃ v h, r = some (v, h) ∧ Q v h := by
  cases r with
  | none => exact h.elim
  | some t => exact ⟨_, _, rfl, h⟩
theorem AVal.out {α : Type} {r : Option α} {Q : α → Prop} (h : AVal r Q) : ∃ v, r = some v ∧ Q v := by
  cases r with
  | none => exact h.elim
  | some t => exact ⟨_, rfl, h⟩


/-- One piece of what is still to be done. -/
inductive Fr where
  | seq (b : Code)
  | block (id : Nat)

def KP (P : Program) (cf : CallF) (D : Array Oper → List AV → AH → Option (List AV × AH)) (fuel : Nat) : List Fr → (AX → List AV → AH → Prop) → AX → List AV → AH → Prop
  | [], Q, x, e, h => Q x e h
  | .seq b :: ks, Q, x, e, h => match x with
    | .normal => AW (acode P cf D fuel b e h) (KP P cf D fuel ks Q)
    | x => KP P cf D fuel ks Q x e h
  | .block id :: ks, Q, x, e, h => match x with
    | .exit i => KP P cf D fuel ks Q (if i = id then .normal else .exit i) e h
    | x => KP P cf D fuel ks Q x e h

/-- Behind an operation: the rest of its region. -/
def KA (P : Program) (cf : CallF) (d : Option Tmp) (ops : Array Oper) (l : List Oper) (env : List AV) (K : List AV → AH → Prop) (v : AV) (h : AH) : Prop := AE (aops P cf ops l (eput env d v) h) K
def CondK (P : Program) (cf : CallF) (D : Array Oper → List AV → AH → Option (List AV × AH)) (fuel : Nat) (v : AV) (a b : Code) (env : List AV) (h : AH) (K : AX → List AV → AH → Prop) : Prop :=
  match v with
  | .bool true => AW (acode P cf D fuel a env h) K
  | .bool false => AW (acode P cf D fuel b env h) K
  | _ => False
def GuardW (P : Program) (cf : CallF) (v : AV) (want : Bool) (op : Op) (d : Option Tmp) (ops : Array Oper) (l : List Oper) (env : List AV) (h : AH) (K : List AV → AH → Prop) : Prop :=
  match v with
  | .bool b => (b = want → AR (aop P cf env op h) (KA P cf d ops l env K)) ∧ (¬ b = want → KA P cf d ops l env K .undef h)
  | .tup [] => KA P cf d ops l env K .undef h
  | _ => False
def GuardK (P : Program) (cf : CallF) (t : Option Tmp) (want : Bool) (op : Op) (d : Option Tmp) (ops : Array Oper) (l : List Oper) (env : List AV) (h : AH) (K : List AV → AH → Prop) : Prop :=
  match t with
  | some t => t < env.length ∧ GuardW P cf (env.getD t .undef) want op d ops l env h K
  | none => False
/-- A value, or none; then K. -/
def AVK (x : Option AV) (h : AH) (K : AV → AH → Prop) : Prop := AVal x fun v => K v h
def AVM {α : Type} (x : Option α) (f : α → AV) (h : AH) (K : AV → AH → Prop) : Prop := AVal x fun v => K (f v) h
def AHK (x : Option AH) (v : AV) (K : AV → AH → Prop) : Prop := AVal x fun h => K v h

variable {Q : AX → List AV → AH → Prop} {K : AX → List AV → AH → Prop} {KE : List AV → AH → Prop} {KV : AV → AH → Prop} {ks : List Fr}

theorem KP_nil {x : AX} : KP P cf D fuel [] Q x env h = Q x env h := by cases x <;> exact propext ⟨id, id⟩
theorem KP_seq {b : Code} : KP P cf D fuel (.seq b :: ks) Q .normal env h = AW (acode P cf D fuel b env h) (KP P cf D fuel ks Q) := propext ⟨id, id⟩
theorem KP_seqE {b : Code} {i : Nat} : KP P cf D fuel (.seq b :: ks) Q (.exit i) env h = KP P cf D fuel ks Q (.exit i) env h := propext ⟨id, id⟩
theorem KP_seqR {b : Code} : KP P cf D fuel (.seq b :: ks) Q .ret env h = KP P cf D fuel ks Q .ret env h := propext ⟨id, id⟩
theorem KP_block {j : Nat} : KP P cf D fuel (.block j :: ks) Q .normal env h = KP P cf D fuel ks Q .normal env h := propext ⟨id, id⟩
theorem KP_blockE {j i : Nat} : KP P cf D fuel (.block j :: ks) Q (.exit i) env h = KP P cf D fuel ks Q (if i = j then .normal else .exit i) env h := propext ⟨id, id⟩
theorem KP_blockR {j : Nat} : KP P cf D fuel (.block j :: ks) Q .ret env h = KP P cf D fuel ks Q .ret env h := propext ⟨id, id⟩

theorem AW_skip : AW (acode P cf D fuel .skip env h) K = K .normal env h := by simp only [acode]; exact propext ⟨id, id⟩
theorem AW_exit {i : Nat} : AW (acode P cf D fuel (.exit i) env h) K = K (.exit i) env h := by simp only [acode]; exact propext ⟨id, id⟩
theorem AW_ret : AW (acode P cf D fuel .ret env h) K = K .ret env h := by simp only [acode]; exact propext ⟨id, id⟩
theorem AW_label {l : Nat} : AW (acode P cf D fuel (.label l) env h) K = K .normal env h := by simp only [acode]; exact propext ⟨id, id⟩
theorem AW_scope {c : Code} : AW (acode P cf D fuel (.scope c) env h) K = AW (acode P cf D fuel c env h) K := by simp only [acode]
theorem AW_loop {c : Code} : AW (acode P cf D fuel (.loop c) env h) K = AW (aloop (acode P cf D fuel c) fuel env h) K := by simp only [acode]
theorem AW_region {id : Nat} {l : List Oper} : AW (acode P cf D fuel (.region id l.toArray false) env h) K = AE (aops P cf l.toArray l env h) (K .normal) := by
  simp only [acode]
  cases aops P cf l.toArray l env h <;> rfl
theorem AW_drawn {id : Nat} {ops : Array Oper} : AW (acode P cf D fuel (.region id ops true) env h) K = AE (D ops env h) (K .normal) := by
  simp only [acode]
  cases D ops env h <;> rfl
theorem AE_drawn {l : List Oper} (hlt : late P l.toArray = false) (hd : dOK P T l.toArray = true) : AE (drawnOf P T cf l.toArray env h) KE = AE (aops P (withTab T cf) l.toArray l env h) KE := by
  simp only [drawnOf, hlt, hd, if_true, Bool.false_eq_true, if_false]
theorem AW_seq {a b : Code} : AW (acode P cf D fuel (a.seq b) env h) (KP P cf D fuel ks Q) = AW (acode P cf D fuel a env h) (KP P cf D fuel (.seq b :: ks) Q) := by
  simp only [acode]
  cases ha : acode P cf D fuel a env h with
  | none => rfl
  | some r =>
    obtain ⟨x, e, h'⟩ := r
    cases x <;> rfl
theorem AW_block {j : Nat} {c : Code} : AW (acode P cf D fuel (.block j c) env h) (KP P cf D fuel ks Q) = AW (acode P cf D fuel c env h) (KP P cf D fuel (.block j :: ks) Q) := by
  simp only [acode]
  cases ha : acode P cf D fuel c env h with
  | none => rfl
  | some r =>
    obtain ⟨x, e, h'⟩ := r
    cases x <;> rfl
theorem AW_cond {c : Operand} {a b : Code} : AW (acode P cf D fuel (.cond c a b) env h) K = CondK P cf D fuel (evalOp env c) a b env h K := by
  simp only [acode]
  cases evalOp env c with
  | bool b => cases b <;> rfl
  | _ => rfl
theorem CondK_true {a b : Code} : CondK P cf D fuel (.bool true) a b env h K = AW (acode P cf D fuel a env h) K := propext ⟨id, id⟩
theorem CondK_false {a b : Code} : CondK P cf D fuel (.bool false) a b env h K = AW (acode P cf D fuel b env h) K := propext ⟨id, id⟩
theorem CondK_bool {v : Bool} {a b : Code} : CondK P cf D fuel (.bool v) a b env h K = ((v = true → AW (acode P cf D fuel a env h) K) ∧ (v = false → AW (acode P cf D fuel b env h) K)) := by
  cases v <;> simp [CondK]

theorem AE_nil {ops : Array Oper} : AE (aops P cf ops [] env h) KE = KE env h := by simp only [aops]; exact propext ⟨id, id⟩
theorem AE_step {ops : Array Oper} {d : Option Tmp} {op : Op} {t : TypeId} {p : String} {a : Array Edge} {l : List Oper} :
    AE (aops P cf ops (⟨d, op, t, p, a, none⟩ :: l) env h) KE = AR (aop P cf env op h) (KA P cf d ops l env KE) := by
  simp only [aops, astep, awanted]
  cases aop P cf env op h <;> rfl
theorem KA_some {d : Tmp} {ops : Array Oper} {l : List Oper} {v : AV} : KA P cf (some d) ops l env KE v h = AE (aops P cf ops l (env.set d v) h) KE := propext ⟨id, id⟩
theorem KA_none {ops : Array Oper} {l : List Oper} {v : AV} : KA P cf none ops l env KE v h = AE (aops P cf ops l env h) KE := propext ⟨id, id⟩
theorem GuardK_some {t : Tmp} {want : Bool} {op : Op} {d : Option Tmp} {ops : Array Oper} {l : List Oper} : GuardK P cf (some t) want op d ops l env h KE = (t < env.length ∧ GuardW P cf (env.getD t .undef) want op d ops l env h KE) := propext ⟨id, id⟩
theorem GuardW_yes {op : Op} {d : Option Tmp} {ops : Array Oper} {l : List Oper} {b : Bool} : GuardW P cf (.bool b) b op d ops l env h KE = AR (aop P cf env op h) (KA P cf d ops l env KE) := by simp [GuardW]
theorem GuardW_tf {op : Op} {d : Option Tmp} {ops : Array Oper} {l : List Oper} : GuardW P cf (.bool true) false op d ops l env h KE = KA P cf d ops l env KE .undef h := by simp [GuardW]
theorem GuardW_ft {op : Op} {d : Option Tmp} {ops : Array Oper} {l : List Oper} : GuardW P cf (.bool false) true op d ops l env h KE = KA P cf d ops l env KE .undef h := by simp [GuardW]
theorem GuardW_undef {want : Bool} {op : Op} {d : Option Tmp} {ops : Array Oper} {l : List Oper} : GuardW P cf .undef want op d ops l env h KE = KA P cf d ops l env KE .undef h := propext ⟨id, id⟩

/-- Where an operation of a region puts what it yields. -/
def dstAt : List Oper → Nat → Option Tmp
  | [], _ => none
  | o :: _, 0 => o.dst
  | _ :: l, j + 1 => dstAt l j
theorem dstAt_zero {d : Option Tmp} {op : Op} {t : TypeId} {p : String} {a : Array Edge} {g : Option (Nat × Bool)} {l : List Oper} : dstAt (⟨d, op, t, p, a, g⟩ :: l) 0 = d := rfl
theorem dstAt_succ {o : Oper} {l : List Oper} {j : Nat} : dstAt (o :: l) (j + 1) = dstAt l j := rfl
theorem dstAt_eq : ∀ (l : List Oper) (j : Nat), (l[j]?).bind (·.dst) = dstAt l j
  | [], _ => rfl
  | _ :: _, 0 => rfl
  | _ :: l, j + 1 => dstAt_eq l j
theorem AE_guardA {ops : Array Oper} {d : Option Tmp} {op : Op} {t : TypeId} {p : String} {a : Array Edge} {j : Nat} {want : Bool} {l : List Oper} :
    AE (aops P cf ops (⟨d, op, t, p, a, some (j, want)⟩ :: l) env h) KE = GuardK P cf ((ops[j]?).bind (·.dst)) want op d ops l env h KE := by
  simp only [aops, astep, awanted]
  cases hd : (ops[j]?).bind (·.dst) with
  | none => rfl
  | some t =>
    simp only [GuardK]
    by_cases hlt : t < env.length
    · have : env[t]? = some (env.getD t .undef) := by simp [List.getD, List.getElem?_eq_getElem hlt]
      rw [this]
      generalize env.getD t .undef = v
      simp only [hlt, true_and]
      cases v with
      | bool b =>
        simp only [GuardW]
        cases b <;> cases want <;> simp <;> first | rfl | (cases aop P cf env op h <;> rfl)
      | tup xs => cases xs <;> rfl
      | _ => rfl
    · have : env[t]? = none := List.getElem?_eq_none (Nat.le_of_not_lt hlt)
      rw [this]
      simp only [hlt, false_and]
      rfl
theorem AE_guard {l0 : List Oper} {d : Option Tmp} {op : Op} {t : TypeId} {p : String} {a : Array Edge} {j : Nat} {want : Bool} {l : List Oper} :
    AE (aops P cf l0.toArray (⟨d, op, t, p, a, some (j, want)⟩ :: l) env h) KE = GuardK P cf (dstAt l0 j) want op d l0.toArray l env h KE := by
  rw [AE_guardA, ← dstAt_eq]
  simp only [List.getElem?_toArray]

theorem AR_some {v : AV} : AR (some (v, h)) KV = KV v h := propext ⟨id, id⟩
theorem AR_none : AR none KV = False := propext ⟨id, id⟩
theorem AR_map {x : Option AV} : AR (x.map fun v => (v, h)) KV = AVK x h KV := by cases x <;> exact propext ⟨id, id⟩
theorem AR_mapH {x : Option AH} {v : AV} : AR (x.map fun h' => (v, h')) KV = AHK x v KV := by cases x <;> exact propext ⟨id, id⟩
theorem AR_ite {c : Prop} [Decidable c] {r : AV × AH} : AR (if c then some r else none) KV = (c ∧ KV r.1 r.2) := by
  by_cases hc : c <;> simp [AR, hc]
theorem AVK_some {v : AV} : AVK (some v) h KV = KV v h := propext ⟨id, id⟩
theorem AVK_none : AVK none h KV = False := propext ⟨id, id⟩
theorem AVK_map {α : Type} {x : Option α} {f : α → AV} : AVK (x.map f) h KV = AVM x f h KV := by cases x <;> exact propext ⟨id, id⟩
theorem AVK_ite {c : Prop} [Decidable c] {v : AV} : AVK (if c then some v else none) h KV = (c ∧ KV v h) := by
  by_cases hc : c <;> simp [AVK, AVal, hc]
theorem AVM_some {α : Type} {v : α} {f : α → AV} : AVM (some v) f h KV = KV (f v) h := propext ⟨id, id⟩
theorem AVM_none {α : Type} {f : α → AV} : AVM none f h KV = False := propext ⟨id, id⟩
theorem AHK_some {v : AV} : AHK (some h) v KV = KV v h := propext ⟨id, id⟩
theorem AHK_none {v : AV} : AHK none v KV = False := propext ⟨id, id⟩
theorem AHK_ite {c : Prop} [Decidable c] {v : AV} {g : AH} : AHK (if c then some g else none) v KV = (c ∧ KV v g) := by
  by_cases hc : c <;> simp [AHK, AVal, hc]

theorem gs (l : List AV) (i j : Nat) (v : AV) : (l.set i v).getD j .undef = if i = j then (if i < l.length then v else .undef) else l.getD j .undef := by
  simp only [List.getD, List.getElem?_set]
  by_cases h1 : i = j
  · subst h1
    by_cases h2 : i < l.length <;> simp [h2]
  · simp [h1]

/-- A loop, by what holds ahead of each round; n rounds are enough. -/
theorem AW_rounds {f : List AV → AH → ARes} {Q : AX → List AV → AH → Prop} (I : Nat → List AV → AH → Prop)
    (hI : ∀ n env h, I n env h → AW (f env h) fun x e h' => match x with | .normal => ∃ m, m < n ∧ I m e h' | x => Q x e h') :
    ∀ (n fuel : Nat) (env : List AV) (h : AH), I n env h → n < fuel → AW (aloop f fuel env h) Q := by
  intro n
  induction n using Nat.strongRecOn with
  | _ n ih =>
    intro fuel env h hi hf
    obtain ⟨fuel, rfl⟩ : ∃ k, fuel = k + 1 := ⟨fuel - 1, by omega⟩
    obtain ⟨x, e, h', hr, hq⟩ := (hI n env h hi).out
    simp only [aloop, hr]
    cases x with
    | normal =>
      obtain ⟨m, hm, hi'⟩ := hq
      exact ih m hm fuel e h' hi' (by omega)
    | exit i => exact hq
    | ret => exact hq

theorem AW.mono {r : ARes} {Q Q' : AX → List AV → AH → Prop} (hr : AW r Q) (hq : ∀ x e h, Q x e h → Q' x e h) : AW r Q' :=
  by cases r with
  | none => exact hr
  | some t => exact hq _ _ _ hr
theorem AR.mono {r : Option (AV × AH)} {Q Q' : AV → AH → Prop} (hr : AR r Q) (hq : ∀ v h, Q v h → Q' v h) : AR r Q' :=
  by cases r with
  | none => exact hr
  | some t => exact hq _ _ hr

/-- What a round of a loop must leave behind. -/
def Qloop (I : Nat → List AV → AH → Prop) (n : Nat) (K : AX → List AV → AH → Prop) : AX → List AV → AH → Prop
  | .normal, e, h => ∃ m, m < n ∧ I m e h
  | x, e, h => K x e h
theorem Qloop_normal {I : Nat → List AV → AH → Prop} {n : Nat} : Qloop I n K .normal env h = ∃ m, m < n ∧ I m env h := propext ⟨id, id⟩
theorem Qloop_exit {I : Nat → List AV → AH → Prop} {n i : Nat} : Qloop I n K (.exit i) env h = K (.exit i) env h := propext ⟨id, id⟩
theorem Qloop_ret {I : Nat → List AV → AH → Prop} {n : Nat} : Qloop I n K .ret env h = K .ret env h := propext ⟨id, id⟩

theorem AW_loopI {c : Code} (I : Nat → List AV → AH → Prop) (hI : ∀ n env h, I n env h → AW (acode P cf D fuel c env h) (KP P cf D fuel [] (Qloop I n K))) (n : Nat) (env : List AV) (h : AH) (hi : I n env h) (hf : n < fuel) :
    AW (aloop (acode P cf D fuel c) fuel env h) K :=
  AW_rounds I (fun n env h hi => (hI n env h hi).mono fun x e h' hq => by
    rw [KP_nil] at hq
    cases x <;> exact hq) n fuel env h hi hf

/-- What a function must leave behind for its answer. -/
def Qfun (P : Program) (rs : List ResultVar) (Q : AV → AH → Prop) : AX → List AV → AH → Prop
  | .exit _, _, _ => False
  | _, e, h => AVM (aresults P e h rs) packed h Q
theorem Qfun_normal {rs : List ResultVar} {Q : AV → AH → Prop} : Qfun P rs Q .normal env h = AVM (aresults P env h rs) packed h Q := propext ⟨id, id⟩
theorem Qfun_ret {rs : List ResultVar} {Q : AV → AH → Prop} : Qfun P rs Q .ret env h = AVM (aresults P env h rs) packed h Q := propext ⟨id, id⟩

theorem AR_call {Γ : Hooks} {D : Drawn} {n : Nat} {f : FuncId} {fn : Func} {c : Code} (hg : Γ f = none) (hf : P.funcs[f]? = some fn) (hb : fn.body = some c) (args : List AV) (h : AH) {Q : AV → AH → Prop}
    (hr : ∀ env : List AV, env.length = args.length + (fn.ntmps - args.length) → (∀ i, env.getD i .undef = args.getD i .undef) → AW (acode P (acall P Γ D n) (D (acall P Γ D n)) n c env h) (KP P (acall P Γ D n) (D (acall P Γ D n)) n [] (Qfun P fn.results.toList Q))) : AR (acall P Γ D (n + 1) f args h) Q := by
  obtain ⟨x, e, h', h1, h2⟩ := AW.out (hr (args ++ List.replicate (fn.ntmps - args.length) .undef) (by simp) (fun i => by
    simp only [List.getD, List.getElem?_append, List.getElem?_replicate]
    split
    · rfl
    · rename_i hi
      rw [List.getElem?_eq_none (by omega)]
      split <;> rfl))
  cases x with
  | exit i => exact h2.elim
  | normal =>
    obtain ⟨vs, h3, h4⟩ := AVal.out h2
    rw [acall_succ hg hf hb args h (r := (packed vs, h')) (by rw [h1]; simp only [h3]; rfl)]
    exact h4
  | ret =>
    obtain ⟨vs, h3, h4⟩ := AVal.out h2
    rw [acall_succ hg hf hb args h (r := (packed vs, h')) (by rw [h1]; simp only [h3]; rfl)]
    exact h4

theorem aslice_str {t : TypeId} (ht : P.underlying t = some .string) {l : List UInt8} {k k' : IntKind} {a b : Int} (h0 : 0 ≤ a) (h1 : a ≤ b) (h2 : b ≤ l.length) :
    aslice P t (.str l) (some (.int k a)) (some (.int k' b)) none h = some (.str ((l.take b.toNat).drop a.toNat)) := by
  simp only [aslice, ht, abound, if_pos h0, if_pos (by omega : (0 : Int) ≤ b)]
  rw [if_pos ⟨by omega, by omega⟩]
theorem aslice_strF {t : TypeId} (ht : P.underlying t = some .string) {l : List UInt8} {k : IntKind} {a : Int} (h0 : 0 ≤ a) (h1 : a ≤ l.length) :
    aslice P t (.str l) (some (.int k a)) none none h = some (.str (l.drop a.toNat)) := by
  simp only [aslice, ht, abound, if_pos h0]
  rw [if_pos ⟨by omega, by omega⟩, List.take_of_length_le (Nat.le_refl _)]
theorem aslice_strT {t : TypeId} (ht : P.underlying t = some .string) {l : List UInt8} {k : IntKind} {b : Int} (h0 : 0 ≤ b) (h1 : b ≤ l.length) :
    aslice P t (.str l) none (some (.int k b)) none h = some (.str (l.take b.toNat)) := by
  simp only [aslice, ht, abound, if_pos h0]
  rw [if_pos ⟨by omega, by omega⟩]; simp
theorem aindex_str {t : TypeId} (ht : P.underlying t = some .string) {l : List UInt8} {k : IntKind} {i : Int} (h0 : 0 ≤ i) (h1 : i < l.length) :
    aindex P t (.str l) (.int k i) = some (.int .u8 (l.getD i.toNat 0).toNat) := by
  simp only [aindex, ht, if_pos h0]
  have : i.toNat < l.length := by omega
  simp [List.getD, this]
theorem aconv_int {s d : TypeId} {x : TypeDesc} {k k' : IntKind} {n : Int} (hs : P.underlying s = some x) (hd : P.underlying d = some (.int k)) : aconv P s d (.int k' n) h = some (.int k (k.wrap n), h) := by
  simp only [aconv, hs, hd]
theorem wrap_i64 {n : Int} (h : -9223372036854775808 ≤ n) (h' : n < 9223372036854775808) : IntKind.i64.wrap n = n := by
  unfold IntKind.wrap
  simp [IntKind.signed, IntKind.bits]
  omega

end
/-! M21 -/
section
set_option linter.unusedSimpArgs false
set_option linter.unusedVariables false
open Go Go.RowKit

variable {P : Program} {h : AH}

structure ByteTy (P : Program) (t e : TypeId) : Prop where
  ht : P.underlying t = some (.slice e)
  he : P.underlying e = some (.int .u8)
  hi : (P.info? e).map (fun i => (i.size, i.bytes, i.zero.map fun z => (z.cells.size, ofValue z))) = some (1, 1, some (1, .int .u8 0))

theorem ByteTy.info {t e : TypeId} (b : ByteTy P t e) : ∃ i z, P.info? e = some i ∧ i.size = 1 ∧ i.bytes = 1 ∧ i.zero = some z ∧ z.cells.size = 1 ∧ ofValue z = .int .u8 0 := by
  have := b.hi
  cases hi : P.info? e with
  | none => rw [hi] at this; cases this
  | some i =>
    rw [hi] at this
    simp only [Option.map_some, Option.some.injEq, Prod.mk.injEq] at this
    obtain ⟨h1, h2, h3⟩ := this
    cases hz : i.zero with
    | none => rw [hz] at h3; cases h3
    | some z =>
      rw [hz] at h3
      simp only [Option.map_some, Option.some.injEq, Prod.mk.injEq] at h3
      exact ⟨i, z, rfl, h1, h2, hz, h3.1, h3.2⟩

def cellB (b : UInt8) : AV := .int .u8 b.toNat

theorem take_cells (bs : List UInt8) : (bs.map cellB).take bs.length = bs.map cellB := List.take_of_length_le (by simp)

theorem abytes_cells (bs : List UInt8) : abytes (bs.map cellB) = some bs := by
  induction bs with
  | nil => rfl
  | cons b bs ih => simp [abytes, cellB, ih]

/-- A slice of one's own that holds such bytes. -/
def BS (e : TypeId) (v : AV) (h : AH) (bs : List UInt8) : Prop :=
  (bs = [] ∧ v = .val (.slice none 0 0)) ∨ ∃ id, bs ≠ [] ∧ v = .sl id 0 bs.length 1 ∧ h.get id = some (.cells (bs.map cellB) true 0 (some (e, false)))

theorem build1 {t e : TypeId} (b : ByteTy P t e) (m : Int) (h : AH) : abuildSlice P t 1 [(0, .int .u8 m)] h = some (.sl h.n 0 1 1, h.push (.cells [.int .u8 m] true 0 (some (e, false)))) := by
  obtain ⟨i, z, hi, h1, h2, hz, hz1, hz2⟩ := b.info
  have e1 : sliceElem P t = some e := by simp [sliceElem, b.ht]
  have e2 : szOf P e = some 1 := by simp [szOf, hi, h1]
  have e3 : zeroOf P e = some (.int .u8 0) := by simp [zeroOf, hi, hz, hz2]
  simp [abuildSlice, e1, e2, e3, AV.cells, AV.one, partsAt, zrow, afill, splice]

theorem append1 {t e : TypeId} (b : ByteTy P t e) {v : AV} {bs : List UInt8} (hs : BS e v h bs) (hl : bs.length < 100000000000) (x : UInt8) :
    ∃ v' h', aappend P #[t, t] [v, .sl h.n 0 1 1] (h.push (.cells [.int .u8 x.toNat] true 0 (some (e, false)))) = some (v', h') ∧ BS e v' h' (bs ++ [x]) := by
  obtain ⟨i, z, hi, h1, h2, hz, hz1, hz2⟩ := b.info
  have e1 : sliceElem P t = some e := by simp [sliceElem, b.ht]
  have e4 : (P.underlying t).map notInt = some true := by simp [b.ht, notInt]
  have room : ∀ k, k ≤ 100000000001 → aroom i k = true := fun k hk => by
    simp [aroom, h1, h2, hz, hz1, sizeCap]
    omega
  have e5 : acells (.sl h.n 0 1 1) 1 1 (h.push (.cells [.int .u8 x.toNat] true 0 (some (e, false)))) = some [.int .u8 x.toNat] := by
    simp [acells, AH.get_push_new]
  rcases hs with ⟨rfl, rfl⟩ | ⟨id, hb0, rfl, hg⟩
  · refine ⟨.sl (h.n + 1) 0 1 1, (h.push (.cells [.int .u8 x.toNat] true 0 (some (e, false)))).push (.cells [.int .u8 x.toNat] true 0 (some (e, false))), ?_, .inr ⟨h.n + 1, by simp, rfl, ?_⟩⟩
    · simp only [aappend, List.getElem?_toArray, List.getElem?_cons_zero, List.getElem?_cons_succ, e1, e4, hi, alen, h1, room (0 + 1) (by omega), e5, aappendAt]
      rfl
    · exact AH.get_push_new _ _
  · have hne : id ≠ h.n := fun hh => by have := AH.get_lt hg; omega
    have hg' : (h.push (.cells [.int .u8 x.toNat] true 0 (some (e, false)))).get id = some (.cells (bs.map cellB) true 0 (some (e, false))) := by
      rw [AH.get_push_ne hne]; exact hg
    refine ⟨.sl (h.n + 1) 0 (bs.length + 1) 1, ((h.push (.cells [.int .u8 x.toNat] true 0 (some (e, false)))).set id .dead).push (.cells (((bs.map cellB).drop 0).take (bs.length * 1) ++ [.int .u8 x.toNat]) true (0 - 0) (tyApp e (some (e, false)))), ?_, .inr ⟨h.n + 1, by simp, ?_, ?_⟩⟩
    rotate_left
    · simp only [List.length_append, List.length_cons, List.length_nil]
    rotate_left
    · simp only [aappend, List.getElem?_toArray, List.getElem?_cons_zero, List.getElem?_cons_succ, e1, e4, hi, alen, h1, room (bs.length + 1) (by omega), e5, aappendAt, hg']
      rw [if_neg (by omega), if_pos ⟨trivial, by simp, by omega, by simp [AV.one]⟩]
      rfl
    · have := AH.get_push_new ((h.push (.cells [.int .u8 x.toNat] true 0 (some (e, false)))).set id .dead) (.cells (((bs.map cellB).drop 0).take (bs.length * 1) ++ [.int .u8 x.toNat]) true (0 - 0) (tyApp e (some (e, false))))
      rw [AH.set_n, AH.push_n] at this
      rw [this]
      simp only [Nat.mul_one, List.drop_zero, take_cells, List.map_append, List.map_cons, List.map_nil, tyApp, if_true]
      rfl

theorem toText {t e s : TypeId} (b : ByteTy P t e) (hs : P.underlying s = some .string) {v : AV} {bs : List UInt8} (hv : BS e v h bs) : aconv P t s v h = some (.str bs, h) := by
  rcases hv with ⟨rfl, rfl⟩ | ⟨id, hb0, rfl, hg⟩
  · simp [aconv, b.ht, hs, b.he, alen, acells, abytes]
  · have : acells (.sl id 0 bs.length 1) 1 bs.length h = some (bs.map cellB) := by
      simp [acells, hg, take_cells]
    simp only [aconv, b.ht, hs, b.he, alen, this, abytes_cells, Option.map_some]

theorem appendS {t e s : TypeId} (b : ByteTy P t e) (hs : P.underlying s = some .string) {v : AV} {bs : List UInt8} (hv : BS e v h bs) (l : List UInt8) (hl : bs.length + l.length < 100000000000) :
    ∃ v' h', aappend P #[t, s] [v, .str l] h = some (v', h') ∧ BS e v' h' (bs ++ l) ∧ v'.cells = some [v'] ∧ v'.one = true ∧ (∀ k n, v' = .sl k 0 n 1 → (∃ m, v = .sl k 0 m 1) ∨ h.n ≤ k) ∧ h.n ≤ h'.n ∧ ∀ k o, h.get k = some o → (∀ n, v ≠ .sl k 0 n 1) → h'.get k = some o := by
  obtain ⟨i, z, hi, h1, h2, hz, hz1, hz2⟩ := b.info
  have e1 : sliceElem P t = some e := by simp [sliceElem, b.ht]
  have e4 : (P.underlying s).map notInt = some true := by simp [hs, notInt]
  have room : ∀ k, k ≤ 100000000001 → aroom i k = true := fun k hk => by
    simp [aroom, h1, h2, hz, hz1, sizeCap]
    omega
  have e5 : acells (.str l) 1 l.length h = some (l.map cellB) := by
    simp only [acells, Nat.le_refl, true_and, if_true, List.take_length]; rfl
  rcases hv with ⟨rfl, rfl⟩ | ⟨id, hb0, rfl, hg⟩
  · by_cases h0 : l.length = 0
    · obtain rfl : l = [] := List.eq_nil_of_length_eq_zero h0
      refine ⟨_, h, ?_, .inl ⟨rfl, rfl⟩, rfl, rfl, fun k n hh => .inl ⟨n, hh⟩, Nat.le_refl _, fun k o hk _ => hk⟩
      have e6 : acells (.str []) 1 0 h = some [] := rfl
      have r0 := room 0 (by omega)
      simp only [aappend, List.getElem?_toArray, List.getElem?_cons_zero, List.getElem?_cons_succ, e1, e4, hi, alen, h1, List.length_nil, Nat.add_zero, r0, e6, aappendAt, if_true]
    · refine ⟨.sl h.n 0 l.length 1, h.push (.cells (l.map cellB) true 0 (some (e, false))), ?_, .inr ⟨h.n, by simpa using (fun hh => h0 (by rw [hh]; rfl)), by simp, by simpa using AH.get_push_new h _⟩, rfl, rfl, fun k n hh => .inr (by cases hh; omega), by rw [AH.push_n]; omega, fun k o hk _ => by rw [AH.get_push_ne (by have := AH.get_lt hk; omega)]; exact hk⟩
      simp only [aappend, List.getElem?_toArray, List.getElem?_cons_zero, List.getElem?_cons_succ, e1, e4, hi, alen, h1, room (0 + l.length) (by simp at hl ⊢; omega), e5, aappendAt, h0, if_false]
  · by_cases h0 : l.length = 0
    · obtain rfl : l = [] := List.eq_nil_of_length_eq_zero h0
      refine ⟨.sl id 0 bs.length 1, h, ?_, .inr ⟨id, by simpa using hb0, by simp, by simpa using hg⟩, rfl, rfl, fun k n hh => .inl ⟨n, hh⟩, Nat.le_refl _, fun k o hk _ => hk⟩
      have e6 : acells (.str []) 1 0 h = some [] := rfl
      have r0 := room bs.length (by omega)
      simp only [aappend, List.getElem?_toArray, List.getElem?_cons_zero, List.getElem?_cons_succ, e1, e4, hi, alen, h1, List.length_nil, Nat.add_zero, r0, e6, aappendAt, if_true]
    · refine ⟨.sl h.n 0 (bs.length + l.length) 1, (h.set id .dead).push (.cells (((bs.map cellB).drop 0).take (bs.length * 1) ++ l.map cellB) true (0 - 0) (tyApp e (some (e, false)))), ?_, .inr ⟨h.n, by simp [hb0], by simp, ?_⟩, rfl, rfl, fun k n hh => .inr (by cases hh; omega), by rw [AH.push_n, AH.set_n]; omega, fun k o hk hne => ?_⟩
      · simp only [aappend, List.getElem?_toArray, List.getElem?_cons_zero, List.getElem?_cons_succ, e1, e4, hi, alen, h1, room (bs.length + l.length) (by omega), e5, aappendAt, h0, if_false, hg]
        rw [if_pos ⟨trivial, by simp, by omega, by simp [AV.one, cellB]⟩]
      · have := AH.get_push_new (h.set id .dead) (.cells (((bs.map cellB).drop 0).take (bs.length * 1) ++ l.map cellB) true (0 - 0) (tyApp e (some (e, false))))
        rw [AH.set_n] at this
        rw [this]
        simp only [Nat.mul_one, List.drop_zero, take_cells, List.map_append, tyApp, if_true]
      · have hki : k ≠ id := fun hh => by subst hh; exact hne _ rfl
        rw [AH.get_push_ne (by have := AH.get_lt hk; rw [AH.set_n]; omega), AH.get_set_ne hki]
        exact hk

end
/-! M22 -/
section
set_option linter.unusedSimpArgs false
set_option linter.unusedVariables false
open Go Go.RowKit

variable {P : Program} {h : AH}

/-- A slice type t of elements e, each of sz cells. -/
structure RowTy (P : Program) (t e : TypeId) (sz : Nat) : Prop where
  ht : P.underlying t = some (.slice e)
  hi : (P.info? e).map (fun i => (i.size, decide (i.bytes < 1000), i.zero.map fun z => z.cells.size)) = some (sz, true, some sz)
  hz : (zeroOf P e).bind (fun z => z.cells.map List.length) = some sz
  ag : isAg P e = some true
  pos : 0 < sz

theorem RowTy.info {t e : TypeId} {sz : Nat} (b : RowTy P t e sz) : ∃ i z, P.info? e = some i ∧ i.size = sz ∧ i.bytes < 1000 ∧ i.zero = some z ∧ z.cells.size = sz := by
  have := b.hi
  cases hi : P.info? e with
  | none => rw [hi] at this; cases this
  | some i =>
    rw [hi] at this
    simp only [Option.map_some, Option.some.injEq, Prod.mk.injEq, decide_eq_true_eq] at this
    obtain ⟨h1, h2, h3⟩ := this
    cases hz : i.zero with
    | none => rw [hz] at h3; cases h3
    | some z =>
      rw [hz] at h3
      simp only [Option.map_some, Option.some.injEq] at h3
      exact ⟨i, z, rfl, h1, h2, hz, h3⟩

/-- A slice of one's own that holds such elements. -/
def RS (e : TypeId) (sz : Nat) (v : AV) (h : AH) (xs : List (List AV)) : Prop :=
  (xs = [] ∧ v = .val (.slice none 0 0)) ∨ ∃ id, xs ≠ [] ∧ v = .sl id 0 xs.length sz ∧ h.get id = some (.cells xs.flatten true 0 (some (e, false)))

theorem buildR {t e : TypeId} {sz : Nat} (b : RowTy P t e sz) (hsm : sz < 1000) (cs : List AV) (hc : cs.length = sz) (h : AH) :
    abuildSlice P t 1 [(0, .agg cs)] h = some (.sl h.n 0 1 sz, h.push (.cells cs true 0 (some (e, false)))) := by
  obtain ⟨i, z, hi, h1, h2, hz, hz1⟩ := b.info
  have e1 : sliceElem P t = some e := by simp [sliceElem, b.ht]
  have e2 : szOf P e = some sz := by simp [szOf, hi, h1]
  have hp := b.pos
  have e3 := b.hz
  cases hz0 : zeroOf P e with
  | none => rw [hz0] at e3; cases e3
  | some z0 =>
    rw [hz0] at e3
    simp only [Option.bind_some] at e3
    cases hc0 : z0.cells with
    | none => rw [hc0] at e3; cases e3
    | some zs =>
      rw [hc0] at e3
      simp only [Option.map_some, Option.some.injEq] at e3
      have hne : ¬ (sz = 0 ∨ 16777216 < 1 * sz) := by omega
      have ea : (AV.agg cs).cells = some cs := rfl
      have h10 : ¬ ((1 : Nat) = 0) := by omega
      have hf : afill zs [(0, sz, cs)] = some cs := by
        simp only [afill]
        rw [if_pos ⟨hc, by omega⟩]
        simp [splice, hc, e3]
      simp only [abuildSlice, e1, e2, hne, if_false, h10, hz0, hc0, partsAt, ea, Nat.zero_mul, zrow, List.append_nil, hf]
      rw [if_neg (fun hh => hh.2 e3)]

theorem appendR {t e : TypeId} {sz : Nat} (b : RowTy P t e sz) {v : AV} {xs : List (List AV)} (hs : RS e sz v h xs) (hx : ∀ x ∈ xs, x.length = sz) (hl : xs.length < 1000000) (cs : List AV) (hc : cs.length = sz) (ho : cs.all AV.one = true) :
    ∃ v' h', aappend P #[t, t] [v, .sl h.n 0 1 sz] (h.push (.cells cs true 0 (some (e, false)))) = some (v', h') ∧ RS e sz v' h' (xs ++ [cs]) ∧ (∀ k n, v' = .sl k 0 n sz → h.n ≤ k) ∧ h.n ≤ h'.n ∧ ∀ k o, h.get k = some o → (∀ n, v ≠ .sl k 0 n sz) → h'.get k = some o := by
  obtain ⟨i, z, hi, h1, h2, hz, hz1⟩ := b.info
  have hp := b.pos
  have e1 : sliceElem P t = some e := by simp [sliceElem, b.ht]
  have e4 : (P.underlying t).map notInt = some true := by simp [b.ht, notInt]
  have room : ∀ k, k ≤ 1000000 → aroom i k = true := fun k hk => by
    have : k * (i.bytes + 1) ≤ 1000000 * 1000 := Nat.mul_le_mul hk (by omega)
    simp only [aroom, h1, hz, hz1, Option.map_some, Bool.and_eq_true, decide_eq_true_eq, beq_self_eq_true, sizeCap]
    refine ⟨⟨decide_eq_true (Nat.le_trans this (by decide : (1000000 * 1000 : Nat) ≤ 1099511627776)), ?_⟩, ?_⟩
    · simpa using hp
    · simp
  have e5 : acells (.sl h.n 0 1 sz) sz 1 (h.push (.cells cs true 0 (some (e, false)))) = some cs := by
    simp only [acells, AH.get_push_new, Nat.le_refl, and_self, if_true, Nat.zero_add, Nat.one_mul, hc, List.drop_zero]
    rw [List.take_of_length_le (by omega)]
    rfl
  rcases hs with ⟨rfl, rfl⟩ | ⟨id, hb0, rfl, hg⟩
  · refine ⟨.sl (h.n + 1) 0 1 sz, (h.push (.cells cs true 0 (some (e, false)))).push (.cells cs true 0 (some (e, false))), ?_, .inr ⟨h.n + 1, by simp, rfl, ?_⟩, fun k n hh => by cases hh; omega, by simp [AH.push_n]; omega, fun k o hk _ => ?_⟩
    · simp only [aappend, List.getElem?_toArray, List.getElem?_cons_zero, List.getElem?_cons_succ, e1, e4, hi, alen, h1, room (0 + 1) (by omega), e5, aappendAt]
      rfl
    · have := AH.get_push_new (h.push (.cells cs true 0 (some (e, false)))) (.cells cs true 0 (some (e, false)))
      rw [AH.push_n] at this
      simpa using this
    · have := AH.get_lt hk
      rw [AH.get_push_ne (by rw [AH.push_n]; omega), AH.get_push_ne (by omega)]
      exact hk
  · have hne : id ≠ h.n := fun hh => by have := AH.get_lt hg; omega
    have hg' : (h.push (.cells cs true 0 (some (e, false)))).get id = some (.cells xs.flatten true 0 (some (e, false))) := by
      rw [AH.get_push_ne hne]; exact hg
    have hfl : xs.flatten.length = xs.length * sz := by
      clear hg hg' hb0 hl
      induction xs with
      | nil => simp
      | cons x xs ih =>
        rw [List.flatten_cons, List.length_append, hx x (List.mem_cons_self ..), ih (fun y hy => hx y (List.mem_cons_of_mem _ hy)), List.length_cons, Nat.add_mul]
        omega
    refine ⟨.sl (h.n + 1) 0 (xs.length + 1) sz, ((h.push (.cells cs true 0 (some (e, false)))).set id .dead).push (.cells ((xs.flatten.drop 0).take (xs.length * sz) ++ cs) true (0 - 0) (tyApp e (some (e, false)))), ?_, .inr ⟨h.n + 1, by simp, by simp, ?_⟩, fun k n hh => by cases hh; omega, by rw [AH.push_n, AH.set_n, AH.push_n]; omega, fun k o hk hnk => ?_⟩
    · simp only [aappend, List.getElem?_toArray, List.getElem?_cons_zero, List.getElem?_cons_succ, e1, e4, hi, alen, h1, room (xs.length + 1) (by omega), e5, aappendAt, hg']
      rw [if_neg (by omega), if_pos ⟨trivial, by omega, by omega, ho⟩]
      rfl
    · have := AH.get_push_new ((h.push (.cells cs true 0 (some (e, false)))).set id .dead) (.cells ((xs.flatten.drop 0).take (xs.length * sz) ++ cs) true (0 - 0) (tyApp e (some (e, false))))
      rw [AH.set_n, AH.push_n] at this
      rw [this]
      simp only [List.drop_zero, tyApp, if_true, List.flatten_append, List.flatten_cons, List.flatten_nil, List.append_nil]
      rw [List.take_of_length_le (by omega)]
    · have hlt := AH.get_lt hk
      have hki : k ≠ id := fun hh => by subst hh; exact hnk _ rfl
      rw [AH.get_push_ne (by rw [AH.set_n, AH.push_n]; omega), AH.get_set_ne hki, AH.get_push_ne (by omega)]
      exact hk

theorem aeq_struct {t : TypeId} {fs : Array Field} (hu : P.underlying t = some (.struct fs)) (hs : P.stoodInHeld t = false) (d : Nat) (xs ys : List AV) : aeq P (d + 1) t (.agg xs) (.agg ys) = eqFields P (aeq P d) fs.toList xs ys := by
  simp only [aeq, hu, hs, Bool.false_eq_true, if_false]
theorem aeq_int {t : TypeId} {k : IntKind} (hu : P.underlying t = some (.int k)) (d : Nat) (a b : Int) (k' : IntKind) : aeq P (d + 1) t (.int k' a) (.int k' b) = some (a == b) := by
  simp [aeq, hu, aeqCell]
theorem aeq_str {t : TypeId} (hu : P.underlying t = some .string) (d : Nat) (a b : List UInt8) : aeq P (d + 1) t (.str a) (.str b) = some (a == b) := by
  simp [aeq, hu, aeqCell]
theorem eqFields_cons {eq : TypeId → AV → AV → Option Bool} {f : Field} {fs : List Field} {xs ys : List AV} {x y : AV} {b : Bool} (hn : f.name ≠ "_") (hx : apart P f.type xs f.offset = some x) (hy : apart P f.type ys f.offset = some y) (he : eq f.type x y = some b) :
    eqFields P eq (f :: fs) xs ys = if b then eqFields P eq fs xs ys else some false := by
  simp only [eqFields, hn, if_false, hx, hy, he]
  cases b <;> rfl

theorem flat_get {xs : List (List AV)} {sz : Nat} (hx : ∀ x ∈ xs, x.length = sz) : ∀ i c, xs[i]? = some c → (xs.flatten.drop (i * sz)).take sz = c ∧ (i + 1) * sz ≤ xs.flatten.length := by
  induction xs with
  | nil => intro i c h; simp at h
  | cons y ys ih =>
    intro i c h
    have hy := hx y (List.mem_cons_self ..)
    cases i with
    | zero =>
      simp at h
      subst h
      refine ⟨?_, by simp; omega⟩
      rw [Nat.zero_mul, List.drop_zero, List.flatten_cons, List.take_left' hy]
    | succ i =>
      have := ih (fun z hz => hx z (List.mem_cons_of_mem _ hz)) i c (by simpa using h)
      refine ⟨?_, ?_⟩
      · rw [List.flatten_cons, Nat.add_mul, Nat.one_mul, Nat.add_comm, ← List.drop_drop, List.drop_left' hy]
        exact this.1
      · have h2 := this.2
        rw [List.flatten_cons, List.length_append, hy, Nat.add_mul (i + 1)]
        omega

/-- A slice that holds such elements, to be read. -/
def RV (e : TypeId) (sz : Nat) (v : AV) (h : AH) (xs : List (List AV)) : Prop :=
  (xs = [] ∧ v = .val (.slice none 0 0)) ∨ ∃ id own fz ty, v = .sl id 0 xs.length sz ∧ h.get id = some (.cells xs.flatten own fz ty)

theorem RS.rv {e : TypeId} {sz : Nat} {v : AV} {xs : List (List AV)} (hs : RS e sz v h xs) : RV e sz v h xs := by
  rcases hs with hh | ⟨id, _, hv, hg⟩
  · exact .inl hh
  · exact .inr ⟨id, _, _, _, hv, hg⟩
theorem RV.keep {e : TypeId} {sz : Nat} {v : AV} {h' : AH} {xs : List (List AV)} (hs : RV e sz v h xs) (hf : ∀ k o, h.get k = some o → h'.get k = some o) : RV e sz v h' xs := by
  rcases hs with hh | ⟨id, a, b, c, hv, hg⟩
  · exact .inl hh
  · exact .inr ⟨id, a, b, c, hv, hf _ _ hg⟩

/-- The address of an element, and what lies there. -/
theorem elemR {t e : TypeId} {sz : Nat} (b : RowTy P t e sz) {v : AV} {xs : List (List AV)} (hs : RV e sz v h xs) (hx : ∀ x ∈ xs, x.length = sz) {i : Nat} {c : List AV} (hi : xs[i]? = some c) :
    ∃ p, (∀ k : IntKind, aindexAddr P t v (.int k i) = some p) ∧ aload P e p h = some (.agg c) := by
  obtain ⟨inf, z, hin, h1, h2, hz, hz1⟩ := b.info
  have e2 : szOf P e = some sz := by simp [szOf, hin, h1]
  have hil : i < xs.length := by
    rcases Nat.lt_or_ge i xs.length with hh | hh
    · exact hh
    · rw [List.getElem?_eq_none hh] at hi; cases hi
  rcases hs with ⟨rfl, rfl⟩ | ⟨id, own, fz, ty, rfl, hg⟩
  · simp at hil
  · obtain ⟨f1, f2⟩ := flat_get hx i c hi
    rw [Nat.add_mul, Nat.one_mul] at f2
    refine ⟨.ptr id (0 + i * sz), fun k => ?_, ?_⟩
    · simp only [aindexAddr, b.ht, e2]
      rw [if_pos ⟨trivial, by omega, by omega⟩]
      simp
    · simp only [aload, hg, apart, b.ag, e2]
      rw [if_pos (by omega), Nat.zero_add, f1]

theorem lenR {t e : TypeId} {sz : Nat} (b : RowTy P t e sz) {v : AV} {xs : List (List AV)} (hs : RV e sz v h xs) : alenOf P t v h = some (.int .i64 xs.length) := by
  rcases hs with ⟨rfl, rfl⟩ | ⟨id, own, fz, ty, rfl, hg⟩
  · simp [alenOf, b.ht]
  · simp [alenOf, b.ht]

end
/-! M23 -/
section
set_option linter.unusedSimpArgs false
set_option linter.unusedVariables false
open Go Go.RowKit

variable {P : Program} {w : World}

theorem law_of_run {Γ : Hooks} {D : Drawn} {φ : Nat → Loc} {h0 h' : AH} {n : Nat} {f : FuncId} {fn : Func} {c : Code} {args : List AV} {args' : List Value}
    (hΓ : HooksOK P w.heap.size Γ) (hD : ∀ callF, CallOK P w.heap.size callF → DrawnOK P w.heap.size (D callF)) (hN : P.funcs.all (fun fn => !(fn.name == "runtime.NumGoroutine")) = true)
    (hr : acall P Γ D n f args h0 = some (.bool true, h')) (r : Rel w.heap.size φ h0 w) (ho : ∀ id o, h0.get id = some o → o.owned = false) (ha : VRs h0.ok φ args args')
    (hf : P.funcs[f]? = some fn) (hb : fn.body = some c) (hn : (fn.name == "runtime.NumGoroutine") = false) :
    Calls P f args'.toArray w fun e w' => e = .returned (.bool true) ∧ Below w.heap.size w w' := by
  have := call_sound hΓ hD hN n f args h0 _ h' hr φ w args' r ha
  have hcf : (callFunc f args'.toArray).run P w = .ok (.enter f args'.toArray) w := by
    unfold callFunc
    simp only [Sem.run_bind, run_program, Result.andThen_ok, hf, hn, Bool.false_eq_true, if_false, hb, Option.isNone_some, Sem.run_pure]
  rw [hcf] at this
  refine Calls.mono this ?_
  rintro e w' ⟨v, rfl, φ', hv, r', s'⟩
  cases hv
  exact ⟨rfl, s'.os, s'.tape, s'.output, s'.size, fun k hk => s'.frame k hk fun id o hg hoo => by rw [ho id o hg] at hoo; cases hoo⟩

/-- A heap that holds nothing but one block to be read. -/
theorem Rel.one {B : Nat} {φ : Nat → Loc} {c : List AV} (hb : B ≤ w.heap.size) {C : Array Value} {e : TypeId} {lo hi : Nat} (hC : w.heap[(φ 0).b]? = some (.cells C e (lo, hi))) (hn : (φ 0).n = C.size) (hle : (φ 0).o + c.length ≤ C.size)
    (hc : ∀ (i : Nat) (x : AV), c[i]? = some x → ∃ v, C[(φ 0).o + i]? = some v ∧ ∀ N, VR N φ x v) : Rel B φ ⟨1, [some (.cells c false 0 none)]⟩ w := by
  have only : ∀ id o, (⟨1, [some (.cells c false 0 none)]⟩ : AH).get id = some o → id = 0 ∧ o = .cells c false 0 none := fun id o hg => by
    have hlt := AH.get_lt hg
    have h0 : id = 0 := by simp at hlt; exact hlt
    subst h0
    simp [AH.get] at hg
    exact ⟨rfl, hg.symm⟩
  refine ⟨fun id o hg => ?_, fun id o hg ho => ?_, fun i j o p hi' hj ho => ?_, hb⟩
  · obtain ⟨rfl, rfl⟩ := only id o hg
    exact ⟨C, e, lo, hi, hC, hn.symm, hle, fun i x hx => let ⟨v, h1, h2⟩ := hc i x hx; ⟨v, h1, h2 _⟩, fun hh => (by cases hh), fun t b hh => by cases hh⟩
  · obtain ⟨_, rfl⟩ := only id o hg; cases ho
  · obtain ⟨_, rfl⟩ := only i o hi'; cases ho

end
end Go.Proofs.YtobhmahlenjheaaM
