/- One operation of the machine, held against the model's. -/
import Derived.Test.YtobhmahlenjheaaM11a
set_option linter.unusedSimpArgs false
set_option linter.unusedVariables false
namespace Go.Proofs.YtobhmahlenjheaaM
open Go Go.RowKit

variable {P : Program} {B : Nat} {φ : Nat → Loc} {h : AH} {w : World}

/-- What a call's first step comes to. -/
def InvR (P : Program) (K : Value → World → Prop) : Result Next → Prop
  | .ok (.value v) w => K v w
  | .ok (.enter f a) w => Calls P f a w (fun e w' => ∃ v, e = .returned v ∧ K v w')
  | _ => False

def CallOK (P : Program) (B : Nat) (callF : CallF) : Prop :=
  ∀ (f : FuncId) (args : List AV) (h : AH) (v : AV) (h' : AH), callF f args h = some (v, h') → ∀ (φ : Nat → Loc) (w : World) (args' : List Value), Rel B φ h w → VRs h.ok φ args args' →
    InvR P (fun v' w' => Res B φ h w v h' v' w') ((callFunc f args'.toArray).run P w)

theorem eval_sound {N : Nat → Prop} {env : List AV} {a : Act} (he : VRs N φ env a.tmps.toList) (x : Operand) : VR N φ (evalOp env x) (a.eval x) := by
  cases x with
  | tmp t =>
    simp only [evalOp, Act.eval]
    by_cases ht : t < env.length
    · have hx : env[t]? = some (env.getD t .undef) := by simp [List.getD, List.getElem?_eq_getElem ht]
      obtain ⟨v, hv, hr⟩ := he.at hx
      rw [Array.getElem?_toList] at hv
      have : a.tmps.getD t Go.undef = v := by rw [Array.getD_eq_getD_getElem?, hv]; rfl
      rw [this]
      exact hr
    · have hl : env.length = a.tmps.size := by simpa using he.1
      have ht' : env.length ≤ t := Nat.le_of_not_lt ht
      have ht'' : a.tmps.size ≤ t := hl ▸ ht'
      have e1 : env.getD t .undef = .undef := by rw [List.getD_eq_getElem?_getD, List.getElem?_eq_none ht']; rfl
      have e2 : a.tmps.getD t Go.undef = Go.undef := by rw [Array.getD_eq_getD_getElem?, Array.getElem?_eq_none ht'']; rfl
      rw [e1, e2]
      exact VR.undef _ _
  | const v => exact VR.ofValue _ _ v
  | global g => exact .val _
  | func f => exact .func (.func f) [] [] #[] #[] rfl rfl (fun i x v hx _ => by simp at hx) (fun i x v hx _ => by simp at hx)

theorem evals_sound {N : Nat → Prop} {env : List AV} {a : Act} (he : VRs N φ env a.tmps.toList) (xs : List Operand) : VRs N φ (xs.map (evalOp env)) (xs.map a.eval) :=
  ⟨by simp, fun i x v hx hv => by
    rw [List.getElem?_map] at hx hv
    cases hi : xs[i]? with
    | none => rw [hi] at hx; cases hx
    | some o => rw [hi] at hx hv; cases hx; cases hv; exact eval_sound he o⟩

theorem parts_sound {N : Nat → Prop} {env : List AV} {a : Act} (he : VRs N φ env a.tmps.toList) (ps : List (Nat × Operand)) : partsR N φ (ps.map fun p => (p.1, evalOp env p.2)) (ps.map fun p => (p.1, a.eval p.2)) :=
  ⟨by simp, fun i p q hp hq => by
    rw [List.getElem?_map] at hp hq
    cases hi : ps[i]? with
    | none => rw [hi] at hp; cases hp
    | some o => rw [hi] at hp hq; cases hp; cases hq; exact ⟨rfl, eval_sound he o.2⟩⟩

theorem ovr_sound {N : Nat → Prop} {env : List AV} {a : Act} (he : VRs N φ env a.tmps.toList) (o : Option Operand) : OVR N φ (o.map (evalOp env)) (o.map a.eval) := by
  cases o with
  | none => trivial
  | some x => exact eval_sound he x

section
variable {a : Act} {next : Act → World → Prop} {Q : Exit → Act → World → Prop} {o : Oper}

theorem wp_value {v' : Value} {w' : World} (hr : (execOp a.eval o).run P w = .ok (.value v') w') (hn : next (a.put o.dst v') w') : o.wp P a w next Q := by
  unfold Oper.wp; rw [hr]; exact hn
theorem wp_skip {w' : World} (hr : (execOp a.eval o).run P w = .ok .skip w') (hn : next (a.put o.dst Go.undef) w') : o.wp P a w next Q := by
  unfold Oper.wp; rw [hr]; exact hn
end

theorem run_v {s : Sem Value} {v' : Value} {w' : World} (hs : s.run P w = .ok v' w') : (do pure (Next.value (← s)) : Sem Next).run P w = .ok (.value v') w' := by simp [hs]
theorem run_u {s : Sem Unit} {w' : World} (hs : s.run P w = .ok () w') : (do s; pure Next.skip : Sem Next).run P w = .ok .skip w' := by simp [hs]

theorem builtin_sound (r : Rel B φ h w) {b : Builtin} {at_ : Array TypeId} {ty : TypeId} {cs : Array Bool} {args : List AV} {args' : List Value} {v : AV} {h' : AH} (hb : abuiltin P b at_ args h = some (v, h')) (ha : VRs h.ok φ args args') :
    ∃ v' w', (builtin b at_ ty cs args'.toArray).run P w = .ok (.value v') w' ∧ Res B φ h w v h' v' w' := by
  unfold abuiltin at hb
  split at hb
  · split at hb
    · rename_i t x h0
      obtain ⟨x', rfl, hx⟩ := one_arg ha
      cases hl : alenOf P t x h with
      | none => simp [hl] at hb
      | some v0 =>
        simp [hl] at hb
        obtain ⟨rfl, rfl⟩ := hb
        obtain ⟨v', hr, hv⟩ := len_sound (ty := ty) r h0 hl hx
        exact ⟨v', w, run_v hr, Res.pure r hv⟩
    · cases hb
  · obtain ⟨v', w', hr, hres⟩ := append_sound (ty := ty) r hb ha
    exact ⟨v', w', run_v hr, hres⟩
  · obtain ⟨v', w', hr, hres⟩ := copy_sound (ty := ty) r hb ha
    exact ⟨v', w', run_v hr, hres⟩
  · cases hm : amaxmin true args with
    | none => simp [hm] at hb
    | some v0 =>
      simp [hm] at hb
      obtain ⟨rfl, rfl⟩ := hb
      obtain ⟨v', hr, hv⟩ := maxmin_sound (P := P) true hm ha at_ ty w
      exact ⟨v', w, run_v hr, Res.pure r hv⟩
  · cases hm : amaxmin false args with
    | none => simp [hm] at hb
    | some v0 =>
      simp [hm] at hb
      obtain ⟨rfl, rfl⟩ := hb
      obtain ⟨v', hr, hv⟩ := maxmin_sound (P := P) false hm ha at_ ty w
      exact ⟨v', w, run_v hr, Res.pure r hv⟩
  · obtain ⟨v', w', hr, hres⟩ := sliceData_sound (P := P) (at_ := at_) (ty := ty) r hb ha
    exact ⟨v', w', run_v hr, hres⟩
  · split at hb
    · rename_i pt p n h0
      obtain ⟨p', u', rfl, hp, hu⟩ := two_args ha
      cases hu
      obtain ⟨v', w', hr, hres⟩ := unsafeString_sound (P := P) (ty := ty) r h0 hb hp
      exact ⟨v', w', run_v hr, hres⟩
    · cases hb
  · cases hb

theorem map_some {α β : Type} {o : Option α} {f : α → β} {b : β} (h : o.map f = some b) : ∃ a, o = some a ∧ f a = b := by
  cases o with
  | none => cases h
  | some a => exact ⟨a, rfl, Option.some.inj h⟩

set_option maxHeartbeats 1000000 in
theorem op_sound {callF : CallF} (hC : CallOK P B callF) (r : Rel B φ h w) {env : List AV} {a : Act} {o : Oper} {v : AV} {h' : AH} (ho : aop P callF env o.op h = some (v, h')) (he : VRs h.ok φ env a.tmps.toList)
    {next : Act → World → Prop} {Q : Exit → Act → World → Prop} (hn : ∀ v' w', Res B φ h w v h' v' w' → next (a.put o.dst v') w') : o.wp P a w next Q := by
  obtain ⟨dst, op, type, pos, after, guard⟩ := o
  have E := fun x => eval_sound (φ := φ) he x
  unfold aop at ho
  cases op with
  | move x => cases ho; exact wp_value rfl (hn _ _ (Res.pure r (E x)))
  | assign x => cases ho; exact wp_value rfl (hn _ _ (Res.pure r (E x)))
  | pick c x y =>
    simp only at ho
    split at ho
    · rename_i t hc
      cases ho
      have hcv := E c
      rw [hc] at hcv
      cases hb : a.eval c with
      | bool b =>
        rw [hb] at hcv; cases hcv
        refine wp_value (v' := if t then a.eval x else a.eval y) (w' := w) ?_ (hn _ _ (Res.pure r ?_))
        · simp [execOp, hb, asBool]
        · cases t
          · exact E y
          · exact E x
      | _ => rw [hb] at hcv; cases hcv
    · cases ho
  | alloc e =>
    simp only at ho
    split at ho
    · rename_i z hz
      obtain ⟨cs, hcs, hbb⟩ := map_some ho
      cases hbb
      obtain ⟨v', w', hr, hres⟩ := alloc_sound r hz hcs
      exact wp_value (run_v hr) (hn _ _ hres)
    · cases ho
  | box e x =>
    obtain ⟨cs, hcs, hbb⟩ := map_some ho
    cases hbb
    obtain ⟨v', w', hr, hres⟩ := box_sound (P := P) (e := e) r hcs (E x)
    exact wp_value (run_v hr) (hn _ _ hres)
  | build t ps =>
    obtain ⟨x, hx, hbb⟩ := map_some ho
    cases hbb
    obtain ⟨v', hr, hv⟩ := build_sound hx (parts_sound (φ := φ) he ps.toList) w
    refine wp_value (run_v ?_) (hn _ _ (Res.pure r hv))
    have e1 : (ps.map fun (i, x) => (i, a.eval x)) = (ps.toList.map fun p => (p.1, a.eval p.2)).toArray := by apply Array.ext'; simp
    rw [e1]
    exact hr
  | buildSlice t n ps =>
    obtain ⟨v', w', hr, hres⟩ := buildSlice_sound r ho (parts_sound (φ := φ) he ps.toList)
    refine wp_value (run_v ?_) (hn _ _ hres)
    have e1 : (ps.map fun (i, x) => (i, a.eval x)) = (ps.toList.map fun p => (p.1, a.eval p.2)).toArray := by apply Array.ext'; simp
    rw [e1]
    exact hr
  | load t x =>
    obtain ⟨y, hy, hbb⟩ := map_some ho
    cases hbb
    obtain ⟨u, hu, hr⟩ := run_loadVar' r hy (E x)
    exact wp_value (run_v hu) (hn _ _ (Res.pure r hr))
  | store t x y =>
    obtain ⟨h1, hh, hbb⟩ := map_some ho
    cases hbb
    obtain ⟨w', hr, hres⟩ := store_sound r hh (E x) (E y)
    exact wp_skip (run_u hr) (hn _ _ hres)
  | nilCheck x =>
    have hx := E x
    simp only at ho
    split at ho
    · rename_i id off hc; cases ho
      rw [hc] at hx
      refine wp_value (v' := a.eval x) ?_ (hn _ _ (Res.pure r hx))
      simp only [execOp]
      generalize a.eval x = u at hx ⊢
      cases hx
      rfl
    · rename_i f p q hc; cases ho
      rw [hc] at hx
      refine wp_value (v' := a.eval x) ?_ (hn _ _ (Res.pure r hx))
      simp only [execOp]
      generalize a.eval x = u at hx ⊢
      cases hx
      rfl
    · rename_i p q s t hc; cases ho
      rw [hc] at hx
      refine wp_value (v' := a.eval x) ?_ (hn _ _ (Res.pure r hx))
      simp only [execOp]
      generalize a.eval x = u at hx ⊢
      cases hx
      rfl
    · rename_i id hc; cases ho
      rw [hc] at hx
      refine wp_value (v' := a.eval x) ?_ (hn _ _ (Res.pure r hx))
      simp only [execOp]
      generalize a.eval x = u at hx ⊢
      cases hx
      rfl
    · rename_i q hc; cases ho
      rw [hc] at hx
      refine wp_value (v' := a.eval x) ?_ (hn _ _ (Res.pure r hx))
      simp only [execOp]
      generalize a.eval x = u at hx ⊢
      cases hx
      rfl
    · cases ho
  | binOp op t x y ty =>
    obtain ⟨z, hz, hbb⟩ := map_some ho
    cases hbb
    obtain ⟨v', hr, hv⟩ := bin_sound hz (E x) (E y) w
    exact wp_value (run_v hr) (hn _ _ (Res.pure r hv))
  | unOp op t x =>
    obtain ⟨z, hz, hbb⟩ := map_some ho
    cases hbb
    obtain ⟨v', hr, hv⟩ := un_sound (P := P) hz (E x) w
    exact wp_value (run_v hr) (hn _ _ (Res.pure r hv))
  | convert s d x =>
    obtain ⟨v', w', hr, hres⟩ := conv_sound r ho (E x)
    exact wp_value (run_v hr) (hn _ _ hres)
  | makeInterface t x =>
    simp only at ho
    split at ho
    · cases ho
    · rename_i d hni hu
      cases ho
      refine wp_value (run_v (v' := .iface t (a.eval x)) ?_) (hn _ _ (Res.pure r (.iface _ _ _ (E x))))
      simp only [Instr.makeInterface, Sem.run_bind, run_underlying hu, Result.andThen_ok]
      cases d <;> first | exact absurd rfl (hni _) | rfl
    · cases ho
  | makeFunc fn first cap =>
    cases ho
    refine wp_value (run_v (v' := .func fn (first.map a.eval) (cap.map a.eval)) rfl) (hn _ _ (Res.pure r ?_))
    have h1 := evals_sound (φ := φ) he first.toList
    have h2 := evals_sound (φ := φ) he cap.toList
    exact .func fn _ _ _ _ (by simp) (by simp) (fun i x v hx hv => h1.2 i x v hx (by simpa using hv)) (fun i x v hx hv => h2.2 i x v hx (by simpa using hv))
  | makeMap t re =>
    cases re with
    | some x => cases ho
    | none =>
      cases ho
      obtain ⟨r', s'⟩ := r.push (.map [] 0) (.map #[] 0) ⟨w.heap.size, 0, 0⟩ rfl ⟨#[], rfl, rfl, fun i a e ha _ => by simp at ha⟩
      refine wp_value (run_v (v' := .map (some w.heap.size)) (w' := w.alloc (.map #[] 0)) rfl) (hn _ _ ⟨_, ?_, r', s'⟩)
      have := VR.map (N := (h.push (.map [] 0)).ok) (φ := ext1 φ h.n ⟨w.heap.size, 0, 0⟩) h.n (AH.ok_new _ _)
      rw [ext1_new] at this
      exact this
  | makeSlice t l c =>
    obtain ⟨v', w', hr, hres⟩ := makeSlice_sound r ho (E l) (E c)
    exact wp_value (run_v hr) (hn _ _ hres)
  | slice t x lo hi mx =>
    obtain ⟨z, hz, hbb⟩ := map_some ho
    cases hbb
    obtain ⟨v', hr, hv⟩ := slice_sound r hz (E x) (ovr_sound he lo) (ovr_sound he hi) (ovr_sound he mx)
    exact wp_value (run_v hr) (hn _ _ (Res.pure r hv))
  | fieldAddr s x f =>
    obtain ⟨z, hz, hbb⟩ := map_some ho
    cases hbb
    obtain ⟨v', hr, hv⟩ := fieldAddr_sound hz (E x) w
    exact wp_value (run_v hr) (hn _ _ (Res.pure r hv))
  | field t x f =>
    obtain ⟨z, hz, hbb⟩ := map_some ho
    cases hbb
    obtain ⟨v', hr, hv⟩ := field_sound hz (E x) w
    exact wp_value (run_v hr) (hn _ _ (Res.pure r hv))
  | indexAddr t x i =>
    obtain ⟨z, hz, hbb⟩ := map_some ho
    cases hbb
    obtain ⟨v', hr, hv⟩ := indexAddr_sound hz (E x) (E i) w
    exact wp_value (run_v hr) (hn _ _ (Res.pure r hv))
  | index t x i =>
    obtain ⟨z, hz, hbb⟩ := map_some ho
    cases hbb
    obtain ⟨v', hr, hv⟩ := index_sound hz (E x) (E i) w
    exact wp_value (run_v hr) (hn _ _ (Res.pure r hv))
  | lookup t m k ok =>
    obtain ⟨z, hz, hbb⟩ := map_some ho
    cases hbb
    obtain ⟨v', hr, hv⟩ := lookup_sound r hz (E m) (E k)
    exact wp_value (run_v hr) (hn _ _ (Res.pure r hv))
  | mapUpdate t m k x =>
    obtain ⟨h1, hh, hbb⟩ := map_some ho
    cases hbb
    obtain ⟨w', hr, hres⟩ := mapUpdate_sound r hh (E m) (E k) (E x)
    exact wp_skip (run_u hr) (hn _ _ hres)
  | insert t m k x =>
    obtain ⟨h1, hh, hbb⟩ := map_some ho
    cases hbb
    obtain ⟨w', hr, hres⟩ := mapUpdate_sound r hh (E m) (E k) (E x)
    exact wp_skip (run_u hr) (hn _ _ hres)
  | mapEntry t m k =>
    obtain ⟨v', w', hr, hres⟩ := mapEntry_sound r ho (E m) (E k)
    exact wp_value (run_v hr) (hn _ _ hres)
  | entryStore t m s x =>
    obtain ⟨h1, hh, hbb⟩ := map_some ho
    cases hbb
    obtain ⟨w', hr, hres⟩ := entryStore_sound (t := t) (P := P) r hh (E m) (E s) (E x)
    exact wp_skip (run_u hr) (hn _ _ hres)
  | range t x =>
    obtain ⟨v', w', hr, hres⟩ := range_sound r ho (E x)
    exact wp_value (run_v hr) (hn _ _ hres)
  | next it s =>
    obtain ⟨v', w', hr, hres⟩ := next_sound (P := P) (ty := type) r ho (E it)
    exact wp_value (run_v hr) (hn _ _ hres)
  | typeAssert x xt t ok =>
    obtain ⟨z, hz, hbb⟩ := map_some ho
    cases hbb
    obtain ⟨v', hr, hv⟩ := typeAssert_sound (xt := xt) hz (E x) w
    exact wp_value (run_v hr) (hn _ _ (Res.pure r hv))
  | extract x i =>
    have hx := E x
    simp only at ho
    split at ho
    · rename_i xs hc
      rw [hc] at hx
      obtain ⟨z, hz, hbb⟩ := map_some ho
      cases hbb
      generalize hu : a.eval x = u at hx
      cases hx with
      | tup _ vs hl hv =>
        have hlt : i < vs.size := by
          rcases Nat.lt_or_ge i xs.length with h' | h'
          · omega
          · rw [List.getElem?_eq_none h'] at hz; cases hz
        have hg := Array.getElem?_eq_getElem hlt
        refine wp_value (run_v (v' := vs[i]) ?_) (hn _ _ (Res.pure r (hv i _ _ hz hg)))
        simp [hu, Instr.extract, hg]
    · cases ho
  | call c =>
    simp only [acall1] at ho
    have hargs := evals_sound (φ := φ) he c.args.toList
    have e1 : (c.args.toList.map a.eval).toArray = c.args.map a.eval := by apply Array.ext'; simp
    split at ho
    · rename_i b hb
      obtain ⟨v', w', hr, hres⟩ := builtin_sound (ty := type) (cs := c.args.map fun | .const _ => true | _ => false) r ho hargs
      rw [e1] at hr
      refine wp_value ?_ (hn _ _ hres)
      simp only [execOp, resolve, hb, Sem.run_bind, Sem.run_pure, Result.andThen_ok]
      exact hr
    · rename_i f hf
      split at ho
      · rename_i g first cap hg
        have hfv := E f
        rw [hg] at hfv
        generalize hu : a.eval f = u at hfv
        cases hfv with
        | func _ _ _ us vs hl hl' k1 k2 =>
          have v1 : VRs h.ok φ first us.toList := ⟨by simpa using hl, fun i x v hx hv => k1 i x v hx (by simpa using hv)⟩
          have v2 : VRs h.ok φ cap vs.toList := ⟨by simpa using hl', fun i x v hx hv => k2 i x v hx (by simpa using hv)⟩
          have hinv := hC g _ h v h' ho φ w _ r ((v1.append hargs).append v2)
          have e2 : ((us.toList ++ c.args.toList.map a.eval) ++ vs.toList).toArray = us ++ c.args.map a.eval ++ vs := by apply Array.ext'; simp
          rw [e2] at hinv
          unfold Oper.wp
          have hrun : (execOp a.eval { dst := dst, op := .call c, type := type, pos := pos, after := after, guard := guard : Oper }).run P w = (callFunc g (us ++ c.args.map a.eval ++ vs)).run P w := by
            simp only [execOp, resolve, hf, hu, Deferred.ofValue, Sem.run_bind, Sem.run_pure, Result.andThen_ok, invoke]
          rw [hrun]
          generalize (callFunc g (us ++ c.args.map a.eval ++ vs)).run P w = res at hinv
          unfold InvR at hinv
          split at hinv
          · exact hn _ _ hinv
          · refine Calls.mono hinv ?_
            rintro e w' ⟨u', rfl, hu'⟩
            exact hn _ _ hu'
          · exact hinv.elim
      · cases ho
    · cases ho
  | _ => cases ho

end Go.Proofs.YtobhmahlenjheaaM
