/- Drawn regions: every order that may be drawn comes to what the text's order comes to. -/
import Derived.Test.YtobhmahlenjheaaM16
set_option linter.unusedSimpArgs false
set_option linter.unusedVariables false
namespace Go.Proofs.YtobhmahlenjheaaM
open Go Go.RowKit

variable {P : Program} {B : Nat} {φ : Nat → Loc} {h : AH} {w : World} {T : PTab} {ops : Array Oper} {callF : CallF} {st : Nat → List AV × AH}

def quiet (ops : Array Oper) (x y : Oper) : Bool :=
  match x.dst with
  | some d => !(y.looksAt ops).contains d
  | none => true

def kindsApart (P : Program) (T : PTab) (x y : Oper) : Bool :=
  match kindOf P T x.op, kindOf P T y.op with
  | .write, .free => true
  | .write, _ => false
  | _, _ => true

/-- One that loads, behind which a new block is made. -/
def loadNew (x y : Oper) : Bool :=
  match x.op, y.op with
  | .load _ _, .alloc _ => true
  | .load _ _, .box _ _ => true
  | _, _ => false

def pairOK (P : Program) (T : PTab) (ops : Array Oper) (b : Array Nat) (i j : Nat) : Bool :=
  match ops[i]?, ops[j]? with
  | some x, some y => (match x.dst with | some d => !(y.dst == some d) | none => true) &&
      ((b.getD j 0).testBit i || (quiet ops x y && quiet ops y x && (loadNew x y || (kindsApart P T x y && kindsApart P T y x))))
  | _, _ => false

def edgesOK (ops : Array Oper) (j : Nat) : Bool :=
  match ops[j]? with
  | some o => o.after.all fun e => !Region.binds .any e || decide (e.on < j)
  | none => false

def dOK (P : Program) (T : PTab) (ops : Array Oper) : Bool :=
  (fun b => (List.range ops.size).all fun j => edgesOK ops j && (List.range j).all fun i => pairOK P T ops b i j) (Region.before ops)

def drawnOf (P : Program) (T : PTab) : Drawn := fun callF ops env h =>
  if dOK P T ops then aops P (withTab T callF) ops ops.toList env h else none

def anc (ops : Array Oper) (j i : Nat) : Prop := ((Region.before ops).getD j 0).testBit i = true

structure DChk (P : Program) (T : PTab) (ops : Array Oper) : Prop where
  edge : ∀ (j : Nat) (o : Oper), ops[j]? = some o → ∀ e ∈ o.after, Region.binds .any e = true → e.on < j
  dst : ∀ (i j : Nat) (x y : Oper), i < j → ops[i]? = some x → ops[j]? = some y → ∀ d, x.dst = some d → y.dst ≠ some d
  pair : ∀ (i j : Nat) (x y : Oper), i < j → ops[i]? = some x → ops[j]? = some y → anc ops j i ∨ (quiet ops x y = true ∧ quiet ops y x = true ∧ (loadNew x y = true ∨ (kindsApart P T x y = true ∧ kindsApart P T y x = true)))

theorem lt_of_get {i : Nat} {o : Oper} (h : ops[i]? = some o) : i < ops.size := (Array.getElem?_eq_some_iff.1 h).1

theorem dchk (h : dOK P T ops = true) : DChk P T ops := by
  unfold dOK at h
  simp only [List.all_eq_true, List.mem_range, Bool.and_eq_true] at h
  refine ⟨fun j o ho e he hb => ?_, fun i j x y hij hx hy d hd => ?_, fun i j x y hij hx hy => ?_⟩
  · have h1 := (h j (lt_of_get ho)).1
    simp only [edgesOK, ho, Array.all_eq_true_iff_forall_mem] at h1
    have := h1 e he
    simp only [hb, Bool.not_true, Bool.false_or, decide_eq_true_eq] at this
    exact this
  · have h1 := (h j (lt_of_get hy)).2 i hij
    simp only [pairOK, hx, hy, hd, Bool.and_eq_true] at h1
    intro e
    rw [e] at h1
    simp at h1
  · have h1 := (h j (lt_of_get hy)).2 i hij
    simp only [pairOK, hx, hy, Bool.and_eq_true, Bool.or_eq_true] at h1
    rcases h1.2 with h2 | h2
    · exact .inl h2
    · exact .inr ⟨h2.1.1, h2.1.2, h2.2⟩

theorem run_states : ∀ (l : List Oper) (k : Nat) (env : List AV) (h : AH) (r : List AV × AH), ops.toList.drop k = l → aops P callF ops l env h = some r →
    ∃ st : Nat → List AV × AH, st k = (env, h) ∧ (k ≤ ops.size → st ops.size = r) ∧ ∀ i o, k ≤ i → ops[i]? = some o → astep P callF ops o (st i).1 (st i).2 = some (st (i + 1))
  | [], k, env, h, r, hl, hs => by
    simp only [aops] at hs
    cases hs
    refine ⟨fun _ => (env, h), rfl, fun _ => rfl, fun i o hi ho => ?_⟩
    have h1 : ops.size ≤ k := by
      have := congrArg List.length hl
      simp at this
      omega
    have := lt_of_get ho
    omega
  | o :: l, k, env, h, r, hl, hs => by
    simp only [aops] at hs
    split at hs
    rotate_left
    · cases hs
    rename_i r1 h1
    have hk : ops[k]? = some o := by
      have : (ops.toList.drop k)[0]? = some o := by rw [hl]; rfl
      rw [List.getElem?_drop] at this
      simpa using this
    have hl' : ops.toList.drop (k + 1) = l := by
      rw [← List.drop_drop, hl]; rfl
    obtain ⟨st, e1, e2, e3⟩ := run_states l (k + 1) r1.1 r1.2 r hl' hs
    have hlt := lt_of_get hk
    refine ⟨fun i => if i = k then (env, h) else st i, by simp, fun _ => ?_, fun i o' hi ho' => ?_⟩
    · simp only []
      rw [if_neg (by omega)]
      exact e2 (by omega)
    · simp only []
      rcases Nat.lt_or_ge k i with hlt' | hge
      · rw [if_neg (by omega), if_neg (by omega)]
        exact e3 i o' (by omega) ho'
      · have : i = k := by omega
        subst this
        rw [hk] at ho'
        cases ho'
        rw [if_pos rfl, if_neg (by omega), e1]
        exact h1

theorem step_val {o : Oper} {env : List AV} {h : AH} {r : List AV × AH} (hs : astep P callF ops o env h = some r) : ∃ v, r.1 = eput env o.dst v ∧ ((awanted ops o env = some true ∧ aop P callF env o.op h = some (v, r.2)) ∨ (awanted ops o env = some false ∧ v = .undef ∧ r.2 = h)) := by
  unfold astep at hs
  split at hs
  · rename_i hw
    obtain ⟨⟨v, h1⟩, ho, hbb⟩ := map_some hs
    cases hbb
    exact ⟨v, rfl, .inl ⟨hw, ho⟩⟩
  · rename_i hw
    cases hs
    exact ⟨_, rfl, .inr ⟨hw, rfl, rfl⟩⟩
  · cases hs

theorem eput_length (env : List AV) (d : Option Tmp) (v : AV) : (eput env d v).length = env.length := by
  cases d <;> simp [eput]
theorem eput_other {env : List AV} {d : Option Tmp} {v : AV} {t : Nat} (h : d ≠ some t) : (eput env d v)[t]? = env[t]? := by
  cases d with
  | none => rfl
  | some u =>
    have : u ≠ t := fun e => h (by rw [e])
    simp [eput, List.getElem?_set_ne this]
theorem eput_same {env : List AV} {v : AV} {t : Nat} : (eput env (some t) v)[t]? = if t < env.length then some v else none := by
  simp only [eput]
  split
  · rename_i hlt; rw [List.getElem?_set_self hlt]
  · rename_i hlt; rw [List.getElem?_eq_none (by simp; omega)]

section
variable (hst : ∀ i o, ops[i]? = some o → astep P (withTab T callF) ops o (st i).1 (st i).2 = some (st (i + 1)))
include hst

theorem st_length : ∀ i, i ≤ ops.size → (st i).1.length = (st 0).1.length
  | 0, _ => rfl
  | i + 1, hi => by
    have hk : ops[i]? = some ops[i] := Array.getElem?_eq_getElem (by omega)
    obtain ⟨v, e, _⟩ := step_val (hst i _ hk)
    rw [e, eput_length]
    exact st_length i (by omega)

theorem st_keep {t : Nat} (m : Nat) : ∀ d, m + d ≤ ops.size → (∀ j o, m ≤ j → j < m + d → ops[j]? = some o → o.dst ≠ some t) → (st (m + d)).1[t]? = (st m).1[t]?
  | 0, _, _ => rfl
  | d + 1, hd, hn => by
    have hk : ops[m + d]? = some ops[m + d] := Array.getElem?_eq_getElem (by omega)
    obtain ⟨v, e, _⟩ := step_val (hst (m + d) _ hk)
    have : m + (d + 1) = m + d + 1 := by omega
    rw [this, e, eput_other (hn (m + d) _ (by omega) (by omega) hk)]
    exact st_keep m d (by omega) fun j o h1 h2 => hn j o h1 (by omega)

theorem st_heap1 {i : Nat} {o : Oper} (ho : ops[i]? = some o) (hk : kindOf P T o.op ≠ .write) : (st (i + 1)).2 = (st i).2 := by
  obtain ⟨v, e, h1 | h1⟩ := step_val (hst i _ ho)
  · cases hc : kindOf P T o.op with
    | free => exact (kind_free hc h1.2).1
    | read => exact kind_read hc h1.2
    | write => exact absurd hc hk
  · exact h1.2.2

theorem st_heap (m : Nat) : ∀ d, m + d ≤ ops.size → (∀ j o, m ≤ j → j < m + d → ops[j]? = some o → kindOf P T o.op ≠ .write) → (st (m + d)).2 = (st m).2
  | 0, _, _ => rfl
  | d + 1, hd, hn => by
    have hk : ops[m + d]? = some ops[m + d] := Array.getElem?_eq_getElem (by omega)
    have : m + (d + 1) = m + d + 1 := by omega
    rw [this, st_heap1 hst hk (hn (m + d) _ (by omega) (by omega) hk)]
    exact st_heap m d (by omega) fun j o h1 h2 => hn j o h1 (by omega)

end

def Li (listed : Array Bool) (i : Nat) : Prop := listed.getD i false = true

theorem li_set {listed : Array Bool} {i : Nat} (hi : i < listed.size) (j : Nat) : Li (listed.setIfInBounds i true) j ↔ j = i ∨ Li listed j := by
  unfold Li
  by_cases h : i = j
  · subst h
    simp [hi]
  · rw [getD_set_ne false h]
    constructor
    · exact .inr
    · rintro (h' | h')
      · exact absurd h'.symm h
      · exact h'

theorem anc_listed (hc : DChk P T ops) {listed : Array Bool} (hcl : ∀ j o, ops[j]? = some o → Li listed j → ∀ e ∈ o.after, Region.binds .any e = true → Li listed e.on) : ∀ (n j : Nat), j < n → (∀ o, ops[j]? = some o → ∀ e ∈ o.after, Region.binds .any e = true → Li listed e.on) → ∀ a, anc ops j a → Li listed a
  | 0, j, hj, _, _, _ => by omega
  | n + 1, j, hj, hr, a, ha => by
    obtain ⟨o, ho, e, he, hb, hon⟩ := before_spec ops j a ha
    have hl := hr o ho e he hb
    rcases hon with rfl | hon
    · exact hl
    · exact anc_listed hc hcl n e.on (by have := hc.edge j o ho e he hb; omega) (fun o' ho' => hcl e.on o' ho' hl) a hon

/-- What holds when some of a region's operations have run. -/
structure DI (P : Program) (B : Nat) (T : PTab) (ops : Array Oper) (st : Nat → List AV × AH) (φ : Nat → Loc) (h : AH) (w0 : World) (listed : Array Bool) (a : Act) (w : World) : Prop where
  sz : listed.size = ops.size
  closed : ∀ j o, ops[j]? = some o → Li listed j → ∀ e ∈ o.after, Region.binds .any e = true → Li listed e.on
  body : ∃ φ' env' k, env'.length = (st 0).1.length ∧ (∀ i o t, ops[i]? = some o → o.dst = some t → Li listed i → env'[t]? = (st (i + 1)).1[t]?) ∧
    (∀ t, (∀ i o, ops[i]? = some o → o.dst = some t → ¬ Li listed i) → env'[t]? = (st 0).1[t]?) ∧ k ≤ ops.size ∧
    (∀ i o, ops[i]? = some o → kindOf P T o.op = .write → (Li listed i ↔ i < k)) ∧
    ActR ((st k).2).ok φ' env' a ∧ Rel B φ' (st k).2 w ∧ Step φ h w0 φ' (st k).2 w

theorem looks_op {o : Oper} {x : Operand} (hx : x ∈ o.op.operands) {t : Nat} (e : x = .tmp t) : t ∈ o.looksAt ops := by
  subst e
  unfold Oper.looksAt
  apply List.mem_append_left
  rw [List.mem_filterMap]
  exact ⟨.tmp t, by simpa using hx, rfl⟩

theorem looks_guard {o : Oper} {j : Nat} {want : Bool} (hg : o.guard = some (j, want)) {d : Nat} (hd : (ops[j]?).bind (·.dst) = some d) : d ∈ o.looksAt ops := by
  unfold Oper.looksAt
  apply List.mem_append_right
  simp [hg, hd]

theorem aload_ext {t : TypeId} {x v : AV} {h h' : AH} (hl : aload P t x h = some v) (he : ∀ id o, h.get id = some o → h'.get id = some o) : aload P t x h' = some v := by
  unfold aload at *
  split at hl
  · rename_i id off
    split at hl
    · rename_i hg
      rw [he _ _ hg]; exact hl
    · cases hl
  · unfold agload at *
    split at hl
    · rename_i hg
      rw [he _ _ hg]; exact hl
    · cases hl
  · cases hl

theorem loadNew_read {x y : Oper} (h : loadNew x y = true) : kindOf P T x.op = .read ∧ (∃ t a, x.op = .load t a) ∧ ((∃ e, y.op = .alloc e) ∨ ∃ t a, y.op = .box t a) := by
  unfold loadNew at h
  split at h
  · rename_i t a e h1 h2; exact ⟨by rw [h1]; rfl, ⟨_, _, h1⟩, .inl ⟨_, h2⟩⟩
  · rename_i t a e b h1 h2; exact ⟨by rw [h1]; rfl, ⟨_, _, h1⟩, .inr ⟨_, _, h2⟩⟩
  · cases h

/-- A new block leaves what is there. -/
theorem new_ext {o : Oper} {env : List AV} {h : AH} {r : List AV × AH} (hs : astep P callF ops o env h = some r) (hn : (∃ e, o.op = .alloc e) ∨ ∃ t a, o.op = .box t a) : ∀ id q, h.get id = some q → r.2.get id = some q := by
  intro id q hg
  have push : ∀ (t : TypeId) (c : List AV), (anew t c h).2.get id = some q := fun t c => by
    unfold anew
    rw [AH.get_push_ne (by have := AH.get_lt hg; omega)]; exact hg
  obtain ⟨v, e, ⟨hw, ho⟩ | ⟨_, _, h1⟩⟩ := step_val hs
  · rcases hn with ⟨e, hn⟩ | ⟨t, a, hn⟩ <;> rw [hn] at ho <;> simp only [aop] at ho
    · split at ho
      · obtain ⟨c, hc, hb⟩ := map_some ho
        have := push e c
        rw [hb] at this; exact this
      · cases ho
    · obtain ⟨c, hc, hb⟩ := map_some ho
      have := push t c
      rw [hb] at this; exact this
  · rw [h1]; exact hg

theorem step_again {o : Oper} {env env' : List AV} {h h' : AH} {r : List AV × AH} (hs : astep P (withTab T callF) ops o env h = some r) (hE : ∀ t ∈ o.looksAt ops, env'[t]? = env[t]?)
    (hh : h' = h ∨ kindOf P T o.op = .free ∨ ((∃ t a, o.op = .load t a) ∧ ∀ id q, h.get id = some q → h'.get id = some q)) :
    ∃ v, r.1 = eput env o.dst v ∧ astep P (withTab T callF) ops o env' h' = some (eput env' o.dst v, if kindOf P T o.op = .write then r.2 else h') := by
  obtain ⟨v, e, hc⟩ := step_val hs
  have haw : awanted ops o env' = awanted ops o env := by
    unfold awanted
    cases hg : o.guard with
    | none => rfl
    | some g =>
      obtain ⟨j, want⟩ := g
      simp only []
      cases hd : (ops[j]?).bind (·.dst) with
      | none => rfl
      | some d => simp only []; rw [hE d (looks_guard hg hd)]
  have hop : ∀ g, aop P (withTab T callF) env' o.op g = aop P (withTab T callF) env o.op g := fun g => aop_congr o.op (fun x hx => by
    cases x with
    | tmp t => simp only [evalOp, List.getD]; rw [hE t (looks_op hx rfl)]
    | const v => rfl
    | global v => rfl
    | func v => rfl) g
  refine ⟨v, e, ?_⟩
  unfold astep
  rcases hc with ⟨hw, ho⟩ | ⟨hw, rfl, hr⟩
  · rw [haw, hw]
    simp only []
    rw [hop]
    rcases hh with rfl | hf | ⟨⟨t, a, hl⟩, hx⟩
    · by_cases hf : kindOf P T o.op = .write
      · rw [if_pos hf, ho]; rfl
      · rw [if_neg hf, ho]
        have : r.2 = h' := by
          cases hk : kindOf P T o.op with
          | free => exact (kind_free hk ho).1
          | read => exact kind_read hk ho
          | write => exact absurd hk hf
        simp only [Option.map_some]
        rw [this]
    · rw [if_neg (by rw [hf]; intro hh; cases hh), (kind_free hf ho).2 h']
      rfl
    · rw [if_neg (by rw [hl]; intro hh; cases hh)]
      rw [hl] at ho ⊢
      simp only [aop] at ho ⊢
      obtain ⟨e1, e2⟩ := map_pair ho
      rw [aload_ext e2 hx]
      rfl
  · rw [haw, hw]
    simp only []
    by_cases hf : kindOf P T o.op = .write
    · rw [if_pos hf]
      rcases hh with rfl | hh | ⟨⟨t, a, hl⟩, hx⟩
      · rw [hr]
      · rw [hh] at hf; cases hf
      · rw [hl] at hf; cases hf
    · rw [if_neg hf]
end Go.Proofs.YtobhmahlenjheaaM
