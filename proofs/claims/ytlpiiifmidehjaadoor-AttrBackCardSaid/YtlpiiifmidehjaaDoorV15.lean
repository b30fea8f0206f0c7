/- The value machine: an operation and a region's do what the abstract machine does. -/
import Derived.Test.YtlpiiifmidehjaaDoorV14
set_option linter.unusedSimpArgs false
set_option linter.unusedVariables false
namespace Go.Proofs.YtlpiiifmidehjaaDoorM
open Go Go.RowKit

section
variable {R : Type} {m : Md R} {cx : VCx} {g g' : FM} {H H' : List AV} {env : List AV} {h h0 h' : AH} {X : List Nat} {S : VS} {cf : CallF}

theorem kbR {b : Bool} {x : AV} (h : SVR g H (.kb b) x) : x = .bool b := by
  have h' : [x] = [AV.bool b] := h
  simpa using h'
theorem veq_ok {P : Program} (hm : m.real = true) {op : BinOp} {t : TypeId} {a b : SV} {K : SV → Option R} {r : R} (h : veq P m op t a b K = some r) {x y : AV} (ha : SVR g H a x) (hb : SVR g H b y) (xc yc : Bool) :
    ∃ v s, abin P op t xc yc x y = some v ∧ SVR g H s v ∧ K s = some r := by
  unfold veq at h
  split at h
  · rename_i T hT
    split at h
    · rename_i hc
      obtain ⟨c1, c2, c3, c4⟩ := hc
      split at h
      · rename_i u w hu hw
        have r1 := toT_ok hu ha
        have r2 := toT_ok hw hb
        have hq := eqT_ok c3 r1 r2
        unfold RepV at r1 r2
        rw [if_pos c1] at r1 r2
        obtain ⟨cx, rfl, _⟩ := r1
        obtain ⟨cy, rfl, _⟩ := r2
        refine ⟨_, _, ?_, bool_pv _, h⟩
        simp only [abin, aeqOp, if_pos c2, eqForm, isNilI, isAggV, c4, Bool.and_self, Bool.and_true, Bool.true_and, Bool.not_false, Bool.false_and, Bool.true_or, Bool.or_true, if_true, hq, Option.map_some]
      · cases h
    · exact vbin_ok hm h ha hb xc yc
  · exact vbin_ok hm h ha hb xc yc

theorem vnot_ok {a b : SV} (h : vnot a = some b) {x : AV} (ha : SVR g H a x) : ∃ y, aun .not x = some y ∧ SVR g H b y := by
  unfold vnot at h
  split at h
  · cases h; cases ha; exact ⟨_, rfl, rfl⟩
  · rename_i t v
    split at h
    · rename_i w hw
      cases h
      unfold asT at hw
      split at hw
      · rename_i e; subst e; cases hw; rw [pvB ha]; exact ⟨_, rfl, bool_pv _⟩
      · cases hw
    · cases h
  · cases h
theorem vun_ok {op : UnOp} {a b : SV} (h : vun op a = some b) {x : AV} (ha : SVR g H a x) : ∃ y, aun op x = some y ∧ SVR g H b y := by
  unfold vun at h
  split at h
  · exact vnot_ok h ha
  · cases h; rw [pvI ha]; exact ⟨_, rfl, int_pv _ _⟩
  · cases h; rw [pvI ha]; exact ⟨_, rfl, int_pv _ _⟩
  · cases h

theorem vassert_ok {P : Program} {s b : SV} {a : TypeId} {ok : Bool} (h : vassert P s a ok = some b) {x : AV} (hs : SVR g H s x) : ∃ y, atypeAssert P x a ok = some y ∧ SVR g H b y := by
  unfold vassert at h
  split at h
  · cases h
  · rename_i d t v hni hu
    split at h
    · rename_i e
      subst e
      cases h
      obtain ⟨y, e, hy⟩ := hs
      cases e
      have e1 : atypeAssert P (.iface t y) t ok = some (if ok then .tup [y, .bool true] else y) := by
        cases d with
        | interface ms => exact absurd rfl (hni ms)
        | _ => simp only [atypeAssert, hu, if_true]
      refine ⟨_, e1, ?_⟩
      cases ok
      · exact hy
      · exact ⟨_, rfl, _, _, rfl, hy, _, _, rfl, rfl, rfl⟩
    · cases h
  · cases h

theorem mmS_ok {isMax : Bool} {k : IntKind} : ∀ {l : List SV} {a : Int} {s : SV} {xs : List AV}, mmS isMax k a l = some s → EnvR g H l xs → ∃ y, amaxminFrom isMax k a xs = some y ∧ SVR g H s y
  | [], a, s, xs, h, E => by
    cases h
    have := E.len
    obtain rfl := List.eq_nil_of_length_eq_zero (show xs.length = 0 by simpa using this)
    exact ⟨_, rfl, int_pv _ _⟩
  | c :: l, a, s, xs, h, E => by
    unfold mmS at h
    split at h
    · rename_i e; cases e
    · rename_i b rest e
      cases e
      cases xs with
      | nil => have := E.len; simp at this
      | cons x xs =>
        have hx := E.get 0 _ x rfl rfl
        rw [pvI hx]
        have E' : EnvR g H l xs := ⟨by have := E.len; simpa using this, fun d s' x' h1 h2 => E.get (d + 1) s' x' (by simpa using h1) (by simpa using h2)⟩
        obtain ⟨y, h1, h2⟩ := mmS_ok h E'
        refine ⟨y, ?_, h2⟩
        unfold amaxminFrom
        cases isMax
        · exact h1
        · exact h1
    · cases h
theorem vmm_ok {isMax : Bool} {l : List SV} {s : SV} {xs : List AV} (h : vmm isMax l = some s) (E : EnvR g H l xs) : ∃ y, amaxmin isMax xs = some y ∧ SVR g H s y := by
  unfold vmm at h
  split at h
  · rename_i k a rest
    cases xs with
    | nil => have := E.len; simp at this
    | cons x xs =>
      have hx := E.get 0 _ x rfl rfl
      rw [pvI hx]
      have E' : EnvR g H rest xs := ⟨by have := E.len; simpa using this, fun d s' x' h1 h2 => E.get (d + 1) s' x' (by simpa using h1) (by simpa using h2)⟩
      exact mmS_ok h E'
  · cases h

theorem toLs_ok : ∀ {s : SV} {xs : List AV}, s.isL = true → SVL g H s xs → EnvR g H s.toLs xs
  | .nl, xs, hl, h => by cases h; exact ⟨rfl, fun d s x h1 => by simp [SV.toLs] at h1⟩
  | .cn a b, xs, hl, h => by
    obtain ⟨x, ys, rfl, h1, h2⟩ := h
    have E := toLs_ok (s := b) hl h2
    refine ⟨by simp [SV.toLs, E.len], fun d s y k1 k2 => ?_⟩
    cases d with
    | zero => simp [SV.toLs] at k1 k2; subst k1; subst k2; exact h1
    | succ d => exact E.get d s y (by simpa [SV.toLs] using k1) (by simpa using k2)

theorem EnvR.mapped {f : Operand → SV} {e : Operand → AV} (he : ∀ o, SVR g H (f o) (e o)) (l : List Operand) : EnvR g H (l.map f) (l.map e) := by
  refine ⟨by simp, fun d s x h1 h2 => ?_⟩
  rw [List.getElem?_map] at h1 h2
  obtain ⟨o, ho, rfl⟩ := Option.map_eq_some_iff.1 h1
  rw [ho] at h2
  cases h2
  exact he o

theorem vcallop_ok (hm : m.real = true) (hG : GOK g cx.gl) (hS : ∀ e ∈ cx.es, SoundE cx.gl cf e) (M : VMem h0 X g H S.os h) (E : EnvR g H S.ts env) {c : Call} {K : VS → SV → Option R} {r : R} (hk : vcallop cx m S c K = some r) : Went h0 X g H env (acall1 cx.P cf env c h) K r := by
  have ev := fun o => evS_ok hG E o
  unfold vcallop at hk
  split at hk
  · rename_i hcl
    split at hk
    · rename_i t x ht hargs
      split at hk
      · rename_i s hs
        obtain ⟨y, h1, h2⟩ := vlen_ok M hs (ev x)
        refine Went.same M E (y := y) ?_ h2 hk
        simp only [acall1, hcl, abuiltin, ht, hargs, List.map_cons, List.map_nil, h1, Option.map_some]
      · cases hk
    · cases hk
  · rename_i hcl
    split at hk
    · rename_i st xt s x hst hxt hargs
      have := vappend_ok (ats := c.argTypes) hm M E hst hxt hk (ev s) (ev x)
      simp only [acall1, hcl, abuiltin, hargs, List.map_cons, List.map_nil]
      exact this
    · cases hk
  · rename_i hcl
    split at hk
    · rename_i t x ht hargs
      have := vclear_ok M E ht hk (ev x)
      simp only [acall1, hcl, abuiltin, hargs, List.map_cons, List.map_nil]
      exact this
    · cases hk
  · rename_i hcl
    split at hk
    · rename_i s hs
      obtain ⟨y, h1, h2⟩ := vmm_ok hs (EnvR.mapped ev c.args.toList)
      refine Went.same M E (y := y) ?_ h2 hk
      simp only [acall1, hcl, abuiltin, h1, Option.map_some]
    · cases hk
  · rename_i hcl
    split at hk
    · rename_i s hs
      obtain ⟨y, h1, h2⟩ := vmm_ok hs (EnvR.mapped ev c.args.toList)
      refine Went.same M E (y := y) ?_ h2 hk
      simp only [acall1, hcl, abuiltin, h1, Option.map_some]
    · cases hk
  · rename_i fo hcl
    split at hk
    · rename_i f a b hf
      split at hk
      · rename_i hl
        have hfo := ev fo
        rw [hf] at hfo
        obtain ⟨xs, ys, e, ha, hb⟩ := hfo
        simp only [List.cons.injEq, and_true] at e
        have Ea : EnvR g H (a.toLs ++ (c.args.toList.map (evS cx.gl S) ++ b.toLs)) (xs ++ (c.args.toList.map (evalOp env) ++ ys)) := (toLs_ok hl.1 ha).append ((EnvR.mapped ev c.args.toList).append (toLs_ok hl.2 hb))
        have := vcall_ok hm hG M E Ea hS hk
        simp only [acall1, hcl, e, List.append_assoc]
        exact this
      · cases hk
    · cases hk
  · cases hk

theorem turn_env (E : EnvR g H S.ts env) {c : Operand} {b : Bool} (hc : evalOp env c = .bool b) : EnvR g H (S.turn c b).ts env ∧ (S.turn c b).os = S.os := by
  cases c with
  | tmp t =>
    refine ⟨E.turn t fun x hx => ?_, rfl⟩
    have : evalOp env (.tmp t) = x := by show env.getD t .undef = x; rw [List.getD_eq_getElem?_getD, hx]; rfl
    rw [this] at hc
    subst hc
    rfl
  | _ => exact ⟨E, rfl⟩

theorem vop_ok (hm : m.real = true) (hG : GOK g cx.gl) (hS : ∀ e ∈ cx.es, SoundE cx.gl cf e) (M : VMem h0 X g H S.os h) (E : EnvR g H S.ts env) {o : Op} {K : VS → SV → Option R} {r : R} (hk : vop cx m S o K = some r) : Went h0 X g H env (aop cx.P cf env o h) K r := by
  have ev := fun o => evS_ok hG E o
  cases o <;> simp only [vop] at hk <;> first | (cases hk; done) | skip
  case move x => exact Went.same M E (y := evalOp env x) rfl (ev x) hk
  case assign x => exact Went.same M E (y := evalOp env x) rfl (ev x) hk
  case pick c a b =>
    split at hk
    · rename_i t ht
      have hc := ev c
      rw [ht] at hc
      have hc' : evalOp env c = .bool t := kbR hc
      refine Went.same M E (y := if t then evalOp env a else evalOp env b) (by simp only [aop, hc']) ?_ hk
      cases t
      · exact ev b
      · exact ev a
    · rename_i v hv
      have hc := ev c
      rw [hv] at hc
      have hc' := pvB hc
      rcases vcond_ok hm hk with ⟨hv', hq⟩ | ⟨hv', hq⟩ <;> subst hv'
      · obtain ⟨E', e⟩ := turn_env (S := S) E hc'
        exact Went.same (S := S.turn c true) (by rw [e]; exact M) E' (y := evalOp env a) (by simp only [aop, hc']; rfl) (ev a) hq
      · obtain ⟨E', e⟩ := turn_env (S := S) E hc'
        exact Went.same (S := S.turn c false) (by rw [e]; exact M) E' (y := evalOp env b) (by simp only [aop, hc']; rfl) (ev b) hq
    · cases hk
  case alloc t => exact valloc_ok M E hk
  case box t x => exact vbox_ok M E (ev x) hk
  case build t parts =>
    split at hk
    · rename_i s hs
      obtain ⟨y, h1, h2⟩ := vbuild_ok ev hs
      exact Went.same M E (y := y) (by simp only [aop, h1, Option.map_some]) h2 hk
    · cases hk
  case buildSlice t len parts => exact vbuildSlice_ok M E ev hk
  case load t a =>
    obtain ⟨y, s, h1, h2, h3⟩ := vload_ok hm M hk (ev a)
    exact Went.same M E (y := y) (by simp only [aop, h1, Option.map_some]) h2 h3
  case store t a x => exact vstore_ok hm M E hk (ev a) (ev x)
  case nilCheck x =>
    split at hk
    · rename_i hn
      refine Went.same M E (y := evalOp env x) ?_ (ev x) hk
      have hx := ev x
      generalize evS cx.gl S x = s at hx hn
      cases s <;> first | (cases hn; done) | skip
      · obtain ⟨id, _, e⟩ := hx; simp only [List.cons.injEq, and_true] at e; simp only [aop, e]
      · obtain ⟨_, id, off, n, sz, _, _, e⟩ := hx; simp only [List.cons.injEq, and_true] at e; simp only [aop, e]
      · obtain ⟨id, off, c, e, _⟩ | ⟨id, off, c, e, _⟩ := hx <;> simp only [List.cons.injEq, and_true] at e <;> simp only [aop, e]
      · obtain ⟨e, _⟩ := hx; simp only [List.cons.injEq, and_true] at e; simp only [aop, e]
      · obtain ⟨id, _, e⟩ := hx; simp only [List.cons.injEq, and_true] at e; simp only [aop, e]
      · obtain ⟨xs, ys, e, _⟩ := hx; simp only [List.cons.injEq, and_true] at e; simp only [aop, e]
    · cases hk
  case binOp op t x y _ =>
    obtain ⟨v, s, h1, h2, h3⟩ := veq_ok hm hk (ev x) (ev y) (isConst x) (isConst y)
    exact Went.same M E (y := v) (by simp only [aop, h1, Option.map_some]) h2 h3
  case unOp op t x =>
    split at hk
    · rename_i s hs
      obtain ⟨y, h1, h2⟩ := vun_ok hs (ev x)
      exact Went.same M E (y := y) (by simp only [aop, h1, Option.map_some]) h2 hk
    · cases hk
  case convert s d x =>
    split at hk
    · rename_i b hb
      obtain ⟨y, h1, h2⟩ := vconv_ok M hb (ev x)
      exact Went.same M E (y := y) (by simp only [aop, h1]) h2 hk
    · exact vbytes_ok M E hk (ev x)
  case makeInterface t x =>
    split at hk
    · cases hk
    · rename_i d hni hu
      refine Went.same M E (y := .iface t (evalOp env x)) (s := .ifc t (evS cx.gl S x)) ?_ ⟨_, rfl, ev x⟩ hk
      simp only [aop, hu]
    · cases hk
  case makeFunc fn first cap =>
    split at hk
    · rename_i f
      exact Went.same M E (y := .func (.func f) (first.toList.map (evalOp env)) (cap.toList.map (evalOp env))) (s := .fn f (SV.ofList (first.toList.map (evS cx.gl S))) (SV.ofList (cap.toList.map (evS cx.gl S)))) rfl ⟨_, _, rfl, SVL.ofList ev first.toList, SVL.ofList ev cap.toList⟩ hk
    · cases hk
  case makeMap t r0 =>
    cases r0 with
    | none => exact vmakeMap_ok (cf := cf) M E hk
    | some _ => cases hk
  case makeSlice t l c => exact vmake_ok hm M E hk (ev l) (ev c)
  case slice t x lo hi mx =>
    cases mx with
    | some _ => cases hk
    | none =>
      have ho : ∀ o : Option Operand, OptR g H (o.map (evS cx.gl S)) (o.map (evalOp env)) := fun o => by
        cases o with
        | none => trivial
        | some o => exact ev o
      obtain ⟨y, s, h1, h2, h3⟩ := vslice_ok hm M hk (ev x) (ho lo) (ho hi)
      exact Went.same M E (y := y) (by simp only [aop, Option.map_none, h1, Option.map_some]) h2 h3
  case fieldAddr s x f =>
    split at hk
    · rename_i a ha
      obtain ⟨y, h1, h2⟩ := vfieldAddr_ok ha (ev x)
      exact Went.same M E (y := y) (by simp only [aop, h1, Option.map_some]) h2 hk
    · cases hk
  case field t x f =>
    split at hk
    · rename_i a ha
      obtain ⟨y, h1, h2⟩ := vfield_ok ha (ev x)
      exact Went.same M E (y := y) (by simp only [aop, h1, Option.map_some]) h2 hk
    · cases hk
  case indexAddr t x i =>
    obtain ⟨y, s, h1, h2, h3⟩ := vindexAddr_ok hm M hk (ev x) (ev i)
    exact Went.same M E (y := y) (by simp only [aop, h1, Option.map_some]) h2 h3
  case index t x i =>
    obtain ⟨y, s, h1, h2, h3⟩ := vindex_ok hm hk (ev x) (ev i)
    exact Went.same M E (y := y) (by simp only [aop, h1, Option.map_some]) h2 h3
  case lookup t mm k ok =>
    obtain ⟨y, s, h1, h2, h3⟩ := vlookup_ok M hk (ev mm) (ev k)
    exact Went.same M E (y := y) (by simp only [aop, h1, Option.map_some]) h2 h3
  case mapUpdate t mm k v => exact vmapSet_ok M E hk (ev mm) (ev k) (ev v)
  case insert t mm k v => exact vmapSet_ok M E hk (ev mm) (ev k) (ev v)
  case range t x => exact vrange_ok M E hk (ev x)
  case next it s => exact vnext_ok hm M E hk (ev it)
  case typeAssert x t a ok =>
    split at hk
    · rename_i s hs
      obtain ⟨y, h1, h2⟩ := vassert_ok hs (ev x)
      exact Went.same M E (y := y) (by simp only [aop, h1, Option.map_some]) h2 hk
    · cases hk
  case extract x i =>
    split at hk
    · rename_i s hs
      split at hk
      · rename_i a ha
        have hx := ev x
        rw [hs] at hx
        obtain ⟨xs, e, hxs⟩ := hx
        obtain ⟨y, h1, h2⟩ := SVL.nth hxs ha
        simp only [List.cons.injEq, and_true] at e
        exact Went.same M E (y := y) (by simp only [aop, e, h1, Option.map_some]) h2 hk
      · cases hk
    · cases hk
  case call c => exact vcallop_ok hm hG hS M E hk

/-! ### A region's operations -/
theorem put_env (E : EnvR g H S.ts env) {s : SV} {y : AV} (hs : SVR g H s y) (d : Option Tmp) : EnvR g H (S.put d s).ts (eput env d y) := by
  cases d with
  | none => exact E
  | some t => exact E.set t hs
theorem put_os {d : Option Tmp} {s : SV} : (S.put d s).os = S.os := by cases d <;> rfl

def wOps : List Oper → Nat
  | [] => 0
  | o :: l => wOps l ||| (match o.dst with | some d => 2 ^ d | none => 0)
def WentE (h0 : AH) (X : List Nat) (g : FM) (H : List AV) (l : List Oper) (env : List AV) (res : Option (List AV × AH)) (K : VS → Option R) (r : R) : Prop :=
  ∃ env' h' g' H' S', res = some (env', h') ∧ g.le g' ∧ Hpre H H' ∧ VMem h0 X g' H' S'.os h' ∧ EnvR g' H' S'.ts env' ∧ K S' = some r ∧ ∀ t, (wOps l).testBit t = false → env'[t]? = env[t]?

theorem eput_keep {env : List AV} {d : Option Tmp} {y : AV} {t : Nat} (h : ∀ k, d = some k → k ≠ t) : (eput env d y)[t]? = env[t]? := by
  cases d with
  | none => rfl
  | some k => exact List.getElem?_set_ne (h k rfl)
theorem wOps_cons {o : Oper} {l : List Oper} {t : Nat} (h : (wOps (o :: l)).testBit t = false) : (wOps l).testBit t = false ∧ ∀ k, o.dst = some k → k ≠ t := by
  simp only [wOps, Nat.testBit_or, Bool.or_eq_false_iff] at h
  refine ⟨h.1, fun k hk e => ?_⟩
  rw [hk] at h
  subst e
  have := h.2
  simp at this

theorem vops_ok (hm : m.real = true) (hS : ∀ e ∈ cx.es, SoundE cx.gl cf e) {ops : Array Oper} {K : VS → Option R} {r : R} : ∀ {l : List Oper} {g : FM} {H : List AV} {S : VS} {env : List AV} {h : AH}, GOK g cx.gl → VMem h0 X g H S.os h → EnvR g H S.ts env → vops cx m ops l S K = some r →
    WentE h0 X g H l env (aops cx.P cf ops l env h) K r
  | [], g, H, S, env, h, hG, M, E, hk => ⟨env, h, g, H, S, rfl, FM.le.refl g, Hpre.refl H, M, E, hk, fun _ _ => rfl⟩
  | o :: rest, g, H, S, env, h, hG, M, E, hk => by
    -- one that runs
    have run : ∀ {S0 : VS}, S0.os = S.os → EnvR g H S0.ts env → awanted ops o env = some true → (vop cx m S0 o.op fun S1 s => fVS (S1.put o.dst s) fun S2 => vops cx m ops rest S2 K) = some r → WentE h0 X g H (o :: rest) env (aops cx.P cf ops (o :: rest) env h) K r := fun {S0} hos E0 hw hk => by
      obtain ⟨y, h1, g1, H1, S1, s, k1, k2, k3, k4, k5, k6, k7⟩ := vop_ok hm hG hS (S := S0) (by rw [hos]; exact M) E0 hk
      simp only [fVS_eq] at k7
      obtain ⟨env', h', g', H', S', q1, q2, q3, q4, q5, q6, q7⟩ := vops_ok hm hS (hG.mono k2) (S := S1.put o.dst s) (by rw [put_os]; exact k4) (put_env k5 k6 o.dst) k7
      refine ⟨env', h', g', H', S', ?_, k2.trans q2, k3.trans q3, q4, q5, q6, fun t ht => by obtain ⟨w1, w2⟩ := wOps_cons ht; rw [q7 t w1, eput_keep w2]⟩
      simp only [aops, astep, hw, k1, Option.map_some]
      exact q1
    have skip : ∀ {S0 : VS}, S0.os = S.os → EnvR g H S0.ts env → awanted ops o env = some false → (fVS (S0.put o.dst .un) fun S2 => vops cx m ops rest S2 K) = some r → WentE h0 X g H (o :: rest) env (aops cx.P cf ops (o :: rest) env h) K r := fun {S0} hos E0 hw hk => by
      rw [fVS_eq] at hk
      obtain ⟨env', h', g', H', S', q1, q2, q3, q4, q5, q6, q7⟩ := vops_ok hm hS hG (S := S0.put o.dst .un) (by rw [put_os, hos]; exact M) (put_env E0 (s := .un) (y := .undef) rfl o.dst) hk
      refine ⟨env', h', g', H', S', ?_, q2, q3, q4, q5, q6, fun t ht => by obtain ⟨w1, w2⟩ := wOps_cons ht; rw [q7 t w1, eput_keep w2]⟩
      simp only [aops, astep, hw]
      exact q1
    unfold vops at hk
    split at hk
    · rename_i hgd
      exact run rfl E (by simp only [awanted, hgd]) hk
    · rename_i j want hgd
      split at hk
      · rename_i d hd
        have aw : ∀ {x : AV}, env[d]? = some x → (∀ b, x = .bool b → awanted ops o env = some (b == want)) ∧ (x = .undef → awanted ops o env = some false) := fun {x} hx => by
          refine ⟨fun b hb => ?_, fun hu => ?_⟩
          · subst hb; simp only [awanted, hgd, hd, hx]
          · subst hu; simp only [awanted, hgd, hd, hx, AV.undef]
        have ex : ∀ {s : SV}, S.ts[d]? = some s → ∃ x, env[d]? = some x ∧ SVR g H s x := fun {s} hs => by
          have hlt := lt_at hs
          rw [← E.len] at hlt
          exact ⟨_, List.getElem?_eq_getElem hlt, E.get d s _ hs (List.getElem?_eq_getElem hlt)⟩
        split at hk
        · rename_i b hs
          obtain ⟨x, hx, hr⟩ := ex hs
          have hxb : x = .bool b := by cases hr; rfl
          have hw := (aw hx).1 b hxb
          split at hk
          · rename_i hb; rw [hb] at hw; exact run rfl E hw hk
          · rename_i hb
            have hb' : (b == want) = false := by simpa using hb
            rw [hb'] at hw; exact skip rfl E hw hk
        · rename_i hs
          obtain ⟨x, hx, hr⟩ := ex hs
          have hxb : x = .undef := by cases hr; rfl
          exact skip rfl E ((aw hx).2 hxb) hk
        · rename_i v hs
          obtain ⟨x, hx, hr⟩ := ex hs
          have hxb := pvB hr
          subst hxb
          have hw := (aw hx).1 v rfl
          rcases vcond_ok hm hk with ⟨hv', hq⟩ | ⟨hv', hq⟩ <;> subst hv'
          · have E' : EnvR g H (VS.mk (S.ts.set d (.kb true)) S.os).ts env := E.turn d fun y hy => by rw [hx] at hy; cases hy; rfl
            cases want
            · exact skip (S0 := ⟨S.ts.set d (.kb true), S.os⟩) rfl E' hw hq
            · exact run (S0 := ⟨S.ts.set d (.kb true), S.os⟩) rfl E' hw hq
          · have E' : EnvR g H (VS.mk (S.ts.set d (.kb false)) S.os).ts env := E.turn d fun y hy => by rw [hx] at hy; cases hy; rfl
            cases want
            · exact run (S0 := ⟨S.ts.set d (.kb false), S.os⟩) rfl E' hw hq
            · exact skip (S0 := ⟨S.ts.set d (.kb false), S.os⟩) rfl E' hw hq
        · cases hk
      · cases hk
end
end Go.Proofs.YtlpiiifmidehjaaDoorM
