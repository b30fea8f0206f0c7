/- An operation answers by what it looks at alone; what the table of ancestors says. -/
import Derived.Test.YtobhmahlenjheaaM15
set_option linter.unusedSimpArgs false
set_option linter.unusedVariables false
namespace Go.Proofs.YtobhmahlenjheaaM
open Go Go.RowKit

variable {P : Program}

theorem aop_congr {callF : CallF} {env env' : List AV} (o : Op) (hE : ∀ x ∈ o.operands, evalOp env x = evalOp env' x) (h : AH) : aop P callF env o h = aop P callF env' o h := by
  have e1 : ∀ x, x ∈ o.operands.toList → evalOp env x = evalOp env' x := fun x hx => hE x (by simpa using hx)
  clear hE
  cases o <;> simp only [Op.operands] at e1 <;> first
    | rfl
    | (simp only [aop]; rw [e1 _ (by simp)]; done)
    | (simp only [aop]; rw [e1 _ (by simp)]; rfl)
    | (simp only [aop]; rw [e1 _ (List.mem_cons_self ..), e1 _ (List.mem_cons_of_mem _ (List.mem_cons_self ..))]; done)
    | (simp only [aop]; rw [e1 _ (List.mem_cons_self ..), e1 _ (List.mem_cons_of_mem _ (List.mem_cons_self ..)), e1 _ (List.mem_cons_of_mem _ (List.mem_cons_of_mem _ (List.mem_cons_self ..)))]; done)
    | skip
  case build t ps =>
    simp only [aop]
    rw [List.map_congr_left fun p hp => by rw [e1 p.2 (by simp; exact ⟨p.1, by simpa using hp⟩)]]
  case buildSlice t n ps =>
    simp only [aop]
    rw [List.map_congr_left fun p hp => by rw [e1 p.2 (by simp; exact ⟨p.1, by simpa using hp⟩)]]
  case makeFunc fn a b =>
    simp only [aop]
    rw [List.map_congr_left (l := a.toList) fun x hx => e1 x (by simp at hx ⊢; exact .inl hx), List.map_congr_left (l := b.toList) fun x hx => e1 x (by simp at hx ⊢; exact .inr hx)]
  case makeMap t r =>
    cases r <;> rfl
  case slice t x lo hi mx =>
    simp only [aop]
    rw [e1 x (by simp)]
    have e2 : lo.map (evalOp env) = lo.map (evalOp env') := by
      cases lo with
      | none => rfl
      | some y => simp only [Option.map_some]; rw [e1 y (by simp)]
    have e3 : hi.map (evalOp env) = hi.map (evalOp env') := by
      cases hi with
      | none => rfl
      | some y => simp only [Option.map_some]; rw [e1 y (by simp)]
    have e4 : mx.map (evalOp env) = mx.map (evalOp env') := by
      cases mx with
      | none => rfl
      | some y => simp only [Option.map_some]; rw [e1 y (by simp)]
    rw [e2, e3, e4]
  case call c =>
    simp only [aop, acall1]
    have e2 : c.args.toList.map (evalOp env) = c.args.toList.map (evalOp env') := List.map_congr_left fun x hx => e1 x (by
      unfold Call.operands
      cases c.callee <;> simp_all)
    cases hc : c.callee with
    | builtin b => simp only [e2]
    | value f =>
      simp only [e2]
      rw [e1 f (by unfold Call.operands; simp [hc])]
    | invoke a b => rfl

theorem bits_fold (acc : Array Nat) (a : Nat) : ∀ (es : List Edge) (s : Nat), (es.foldl (fun s e => if Region.binds .any e then s ||| 2 ^ e.on ||| acc.getD e.on 0 else s) s).testBit a = true →
    s.testBit a = true ∨ ∃ e ∈ es, Region.binds .any e = true ∧ (e.on = a ∨ (acc.getD e.on 0).testBit a = true)
  | [], s, h => .inl h
  | e :: es, s, h => by
    rw [List.foldl_cons] at h
    rcases bits_fold acc a es _ h with h1 | ⟨e', he', hb⟩
    · split at h1
      · rename_i hb
        rw [Nat.testBit_or, Nat.testBit_or, Nat.testBit_two_pow] at h1
        simp only [Bool.or_eq_true, decide_eq_true_eq] at h1
        rcases h1 with (h1 | h1) | h1
        · exact .inl h1
        · exact .inr ⟨e, List.mem_cons_self .., hb, .inl h1⟩
        · exact .inr ⟨e, List.mem_cons_self .., hb, .inr h1⟩
      · exact .inl h1
    · exact .inr ⟨e', List.mem_cons_of_mem _ he', hb⟩

theorem before_fold (ops : Array Oper) : ∀ (l : List Oper) (acc : Array Nat), ops.toList.drop acc.size = l →
    (∀ j a, (acc.getD j 0).testBit a = true → ∃ o, ops[j]? = some o ∧ ∃ e ∈ o.after, Region.binds .any e = true ∧ (e.on = a ∨ (acc.getD e.on 0).testBit a = true)) →
    ∀ acc', acc' = l.foldl (fun acc o => acc.push (o.after.foldl (fun s e => if Region.binds .any e then s ||| 2 ^ e.on ||| acc.getD e.on 0 else s) 0)) acc →
    ∀ j a, (acc'.getD j 0).testBit a = true → ∃ o, ops[j]? = some o ∧ ∃ e ∈ o.after, Region.binds .any e = true ∧ (e.on = a ∨ (acc'.getD e.on 0).testBit a = true)
  | [], acc, hl, hi, acc', he, j, a, h => by subst he; exact hi j a h
  | o :: l, acc, hl, hi, acc', he, j, a, h => by
    rw [List.foldl_cons] at he
    have hk : ops[acc.size]? = some o := by
      have : (ops.toList.drop acc.size)[0]? = some o := by rw [hl]; rfl
      rw [List.getElem?_drop] at this
      simpa using this
    refine before_fold ops l _ ?_ ?_ acc' he j a h
    · rw [Array.size_push, ← List.drop_drop, hl]; rfl
    · have grow : ∀ s k b, (acc.getD k 0).testBit b = true → ((acc.push s).getD k 0).testBit b = true := fun s k b hb => by
        rcases Nat.lt_or_ge k acc.size with hlt | hge
        · have : (acc.push s).getD k 0 = acc.getD k 0 := by
            rw [Array.getD_eq_getD_getElem?, Array.getD_eq_getD_getElem?, Array.getElem?_push_lt hlt, Array.getElem?_eq_getElem hlt]
          rw [this]; exact hb
        · rw [Array.getD_eq_getD_getElem?, Array.getElem?_eq_none hge] at hb
          simp at hb
      intro k b hb
      rcases Nat.lt_trichotomy k acc.size with hlt | heq | hgt
      · have : ((acc.push (o.after.foldl (fun s e => if Region.binds .any e then s ||| 2 ^ e.on ||| acc.getD e.on 0 else s) 0)).getD k 0) = acc.getD k 0 := by
          rw [Array.getD_eq_getD_getElem?, Array.getD_eq_getD_getElem?, Array.getElem?_push_lt hlt, Array.getElem?_eq_getElem hlt]
        rw [this] at hb
        obtain ⟨o', ho', e, hee, hbb, hc⟩ := hi k b hb
        exact ⟨o', ho', e, hee, hbb, hc.imp id (grow _ _ _)⟩
      · subst heq
        rw [Array.getD_eq_getD_getElem?, Array.getElem?_push_size, Option.getD_some] at hb
        rw [← Array.foldl_toList] at hb
        rcases bits_fold acc b _ _ hb with h0 | ⟨e, hee, hbb, hc⟩
        · simp at h0
        · exact ⟨o, hk, e, by simpa using hee, hbb, hc.imp id (grow _ _ _)⟩
      · rw [Array.getD_eq_getD_getElem?, Array.getElem?_eq_none (by rw [Array.size_push]; omega)] at hb
        simp at hb

theorem before_spec (ops : Array Oper) (j a : Nat) (h : ((Region.before ops).getD j 0).testBit a = true) : ∃ o, ops[j]? = some o ∧ ∃ e ∈ o.after, Region.binds .any e = true ∧ (e.on = a ∨ ((Region.before ops).getD e.on 0).testBit a = true) := by
  refine before_fold ops ops.toList #[] rfl (fun j a h => by simp at h) _ ?_ j a h
  rw [Region.before, ← Array.foldl_toList]
end Go.Proofs.YtobhmahlenjheaaM
