/- Drawn regions: the proof over all orders, and what it says of a drawn region. -/
import Derived.Test.YtobhmahlenjheaaM17
set_option linter.unusedSimpArgs false
set_option linter.unusedVariables false
namespace Go.Proofs.YtobhmahlenjheaaM
open Go Go.RowKit

variable {P : Program} {B : Nat} {φ : Nat → Loc} {h : AH} {w w0 : World} {T : PTab} {ops : Array Oper} {callF : CallF} {st : Nat → List AV × AH}

theorem ready_unlisted {j : Nat} {listed : Array Bool} (hr : j ∈ Region.ready .any ops listed) : j < listed.size ∧ ¬ Li listed j := by
  have h0 := (mem_ready.1 hr).1
  have hj : j < listed.size := by
    rcases Nat.lt_or_ge j listed.size with h' | h'
    · exact h'
    · rw [Array.getD_eq_getD_getElem?, Array.getElem?_eq_none h'] at h0; cases h0
  refine ⟨hj, fun hl => ?_⟩
  unfold Li at hl
  rw [Array.getD_eq_getD_getElem?, Array.getElem?_eq_getElem hj] at h0 hl
  simp only [Option.getD_some] at h0 hl
  rw [h0] at hl
  cases hl

theorem all_listed (hc : DChk P T ops) {listed : Array Bool} (hr : Region.ready .any ops listed = []) (hs : listed.size = ops.size) : ∀ n j, j < n → j < ops.size → Li listed j
  | 0, j, hj, _ => by omega
  | n + 1, j, hj, hlt => by
    cases hd : listed.getD j false with
    | true => exact hd
    | false =>
      have ho : ops[j]? = some ops[j] := Array.getElem?_eq_getElem hlt
      have : j ∈ Region.ready .any ops listed := mem_ready.2 ⟨by
        rw [Array.getD_eq_getD_getElem?, Array.getElem?_eq_getElem (by omega : j < listed.size)] at hd ⊢
        exact hd, _, ho, fun e he hb => all_listed hc hr hs n e.on (by have := hc.edge j _ ho e he hb; omega) (by have := hc.edge j _ ho e he hb; omega)⟩
      rw [hr] at this
      cases this

theorem count_set {listed : Array Bool} {i : Nat} (hi : i < listed.size) (hn : ¬ Li listed i) {n : Nat} (hc : listed.toList.count false ≤ n + 1) : (listed.setIfInBounds i true).toList.count false ≤ n := by
  have hv : listed[i] = false := by
    unfold Li at hn
    rw [Array.getD_eq_getD_getElem?, Array.getElem?_eq_getElem hi] at hn
    simpa using hn
  rw [Array.toList_setIfInBounds, List.count_set (by simpa using hi)]
  simp only [Array.getElem_toList, hv]
  have hc' : Array.count false listed ≤ n + 1 := by simpa using hc
  simp
  omega

theorem nowriter_keep (hst : ∀ i o, ops[i]? = some o → astep P (withTab T callF) ops o (st i).1 (st i).2 = some (st (i + 1))) {t m' : Nat} (hs : m' ≤ ops.size) (hn : ∀ (j : Nat) (o : Oper), j < m' → ops[j]? = some o → o.dst ≠ some t) : (st m').1[t]? = (st 0).1[t]? := by
  have := st_keep hst (t := t) 0 m' (by omega) fun j o h1 h2 ho => hn j o (by omega) ho
  rwa [show 0 + m' = m' by omega] at this

theorem heap_same (hst : ∀ i o, ops[i]? = some o → astep P (withTab T callF) ops o (st i).1 (st i).2 = some (st (i + 1))) {m m' : Nat} (hm : m ≤ m') (hs : m' ≤ ops.size) (hn : ∀ j o, m ≤ j → j < m' → ops[j]? = some o → kindOf P T o.op ≠ .write) : (st m').2 = (st m).2 := by
  have := st_heap hst m (m' - m) (by omega) fun j o h1 h2 ho => hn j o h1 (by omega) ho
  rwa [show m + (m' - m) = m' by omega] at this

theorem anc_of_write (hc : DChk P T ops) {i j : Nat} {x y : Oper} (hij : i < j) (hx : ops[i]? = some x) (hy : ops[j]? = some y) (hk : kindOf P T x.op = .write ∧ kindOf P T y.op ≠ .free) : anc ops j i := by
  rcases hc.pair i j x y hij hx hy with h1 | ⟨_, _, h1 | ⟨h1, h2⟩⟩
  · exact h1
  · exfalso
    have := (loadNew_read (P := P) (T := T) h1).1
    rw [hk.1] at this; cases this
  · exfalso
    unfold kindsApart at h1 h2
    cases e1 : kindOf P T x.op <;> cases e2 : kindOf P T y.op <;> simp_all
theorem anc_of_writeB (hc : DChk P T ops) {i j : Nat} {x y : Oper} (hij : i < j) (hx : ops[i]? = some x) (hy : ops[j]? = some y) (hk : kindOf P T y.op = .write ∧ kindOf P T x.op ≠ .free) : anc ops j i ∨ loadNew x y = true := by
  rcases hc.pair i j x y hij hx hy with h1 | ⟨_, _, h1 | ⟨h1, h2⟩⟩
  · exact .inl h1
  · exact .inr h1
  · exfalso
    unfold kindsApart at h1 h2
    cases e1 : kindOf P T x.op <;> cases e2 : kindOf P T y.op <;> simp_all

theorem heap_ext (hst : ∀ i o, ops[i]? = some o → astep P (withTab T callF) ops o (st i).1 (st i).2 = some (st (i + 1))) (m : Nat) : ∀ d, m + d ≤ ops.size → (∀ j o, m ≤ j → j < m + d → ops[j]? = some o → kindOf P T o.op = .write → ((∃ e, o.op = .alloc e) ∨ ∃ t a, o.op = .box t a)) → ∀ id q, (st m).2.get id = some q → (st (m + d)).2.get id = some q
  | 0, _, _, _, _, h => h
  | d + 1, hd, hn, id, q, h => by
    have hk : ops[m + d]? = some ops[m + d] := Array.getElem?_eq_getElem (by omega)
    have h1 := heap_ext hst m d (by omega) (fun j o h1 h2 => hn j o h1 (by omega)) id q h
    have : m + (d + 1) = m + d + 1 := by omega
    rw [this]
    by_cases hw : kindOf P T (ops[m + d]).op = .write
    · exact new_ext (hst (m + d) _ hk) (hn (m + d) _ (by omega) (by omega) hk hw) id q h1
    · rw [st_heap1 hst hk hw]; exact h1

section
variable (hc : DChk P T ops) (hst : ∀ i o, ops[i]? = some o → astep P (withTab T callF) ops o (st i).1 (st i).2 = some (st (i + 1)))
include hc hst

theorem writer_keep {t m m' : Nat} {x : Oper} (hx : ops[m]? = some x) (hd : x.dst = some t) (hm : m < m') (hs : m' ≤ ops.size) : (st m').1[t]? = (st (m + 1)).1[t]? := by
  have := st_keep hst (t := t) (m + 1) (m' - (m + 1)) (by omega) fun j o h1 h2 ho => hc.dst m j x o (by omega) hx ho t hd
  rwa [show m + 1 + (m' - (m + 1)) = m' by omega] at this

theorem di_end {listed : Array Bool} {a : Act} (di : DI P B T ops st φ h w0 listed a w) (hall : ∀ j, j < ops.size → Li listed j) : Post B φ h w0 (st ops.size).1 (st ops.size).2 a w := by
  obtain ⟨φ', env', k, hlen, hhi, hlo, hk, hwr, he, r, s⟩ := di.body
  have hheap : (st ops.size).2 = (st k).2 := heap_same hst hk (Nat.le_refl _) fun j o h1 h2 ho hw => by
    have := (hwr j o ho hw).1 (hall j h2)
    omega
  have henv : env' = (st ops.size).1 := by
    apply List.ext_getElem?
    intro t
    by_cases hw : ∃ (j : Nat) (o : Oper), ops[j]? = some o ∧ o.dst = some t
    · obtain ⟨j, o, ho, hd⟩ := hw
      rw [hhi j o t ho hd (hall j (lt_of_get ho)), writer_keep hc hst ho hd (lt_of_get ho) (Nat.le_refl _)]
    · have hn : ∀ (j : Nat) (o : Oper), ops[j]? = some o → o.dst ≠ some t := fun j o ho hd => hw ⟨j, o, ho, hd⟩
      rw [hlo t fun i o ho hd => absurd hd (hn i o ho), nowriter_keep hst (Nat.le_refl _) fun j o _ ho => hn j o ho]
  subst henv
  rw [hheap]
  exact ⟨φ', he, r, s⟩

theorem di_step (hC : CallOK P B (withTab T callF)) {Q : Exit → Act → World → Prop} {i : Nat} {listed : Array Bool} {a : Act} (di : DI P B T ops st φ h w0 listed a w) (hr : i ∈ Region.ready .any ops listed) {K : Act → World → Prop}
    (hn : ∀ a' w', DI P B T ops st φ h w0 (listed.setIfInBounds i true) a' w' → K a' w') : wpOp P ops Q i K a w := by
  obtain ⟨hsz, hun⟩ := ready_unlisted hr
  obtain ⟨_, o, ho, hedges⟩ := mem_ready.1 hr
  have hlt := lt_of_get ho
  obtain ⟨φ', env', k, hlen, hhi, hlo, hk, hwr, he, r, s⟩ := di.body
  have hanc : ∀ a, anc ops i a → Li listed a := anc_listed hc di.closed (i + 1) i (Nat.lt_succ_self i) fun o' ho' => by rw [ho] at ho'; cases ho'; exact hedges
  have hdesc : ∀ j, Li listed j → ¬ anc ops j i := fun j hj ha => hun (anc_listed hc di.closed (j + 1) j (Nat.lt_succ_self j) (fun o' ho' => di.closed j o' ho' hj) i ha)
  -- what the operation looks at
  have hE : ∀ t ∈ o.looksAt ops, env'[t]? = (st i).1[t]? := by
    intro t ht
    by_cases hw : ∃ (j : Nat) (x : Oper), j < i ∧ ops[j]? = some x ∧ x.dst = some t
    · obtain ⟨j, x, hji, hx, hd⟩ := hw
      have hl : Li listed j := by
        rcases hc.pair j i x o hji hx ho with h1 | ⟨h1, _⟩
        · exact hanc j h1
        · simp only [quiet, hd, Bool.not_eq_true'] at h1
          have : (o.looksAt ops).contains t = true := by simpa using ht
          rw [this] at h1; cases h1
      rw [hhi j x t hx hd hl, writer_keep hc hst hx hd hji (by omega)]
    · have hn' : ∀ (j : Nat) (x : Oper), j < i → ops[j]? = some x → x.dst ≠ some t := fun j x hji hx hd => hw ⟨j, x, hji, hx, hd⟩
      rw [nowriter_keep hst (by omega) hn']
      refine hlo t fun j x hx hd hl => ?_
      rcases Nat.lt_trichotomy j i with h1 | h1 | h1
      · exact hn' j x h1 hx hd
      · subst h1; exact hun hl
      · rcases hc.pair i j o x h1 ho hx with h2 | ⟨_, h2, _⟩
        · exact hdesc j hl h2
        · simp only [quiet, hd, Bool.not_eq_true'] at h2
          have : (o.looksAt ops).contains t = true := by simpa using ht
          rw [this] at h2; cases h2
  -- the heap that it finds
  have hH : (st k).2 = (st i).2 ∨ kindOf P T o.op = .free ∨ ((∃ t a, o.op = .load t a) ∧ ∀ id q, (st i).2.get id = some q → (st k).2.get id = some q) := by
    by_cases hf : kindOf P T o.op = .free
    · exact .inr (.inl hf)
    rcases Nat.le_total k i with hki | hik
    · left
      refine (heap_same hst hki (by omega) fun j x h1 h2 hx hw => ?_).symm
      have := (hwr j x hx hw).1 (hanc j (anc_of_write hc h2 hx ho ⟨hw, hf⟩))
      omega
    · have hln : ∀ j x, i ≤ j → j < k → ops[j]? = some x → kindOf P T x.op = .write → loadNew o x = true := fun j x h1 h2 hx hw => by
        have hl := (hwr j x hx hw).2 h2
        rcases Nat.lt_or_ge i j with h3 | h3
        · rcases anc_of_writeB hc h3 ho hx ⟨hw, hf⟩ with h4 | h4
          · exact absurd h4 (hdesc j hl)
          · exact h4
        · have : j = i := by omega
          subst this
          exact absurd hl hun
      by_cases hld : ∃ t a, o.op = .load t a
      · right; right
        refine ⟨hld, fun id q hg => ?_⟩
        have := heap_ext hst i (k - i) (by omega) (fun j x h1 h2 hx hw => (loadNew_read (P := P) (T := T) (hln j x h1 (by omega) hx hw)).2.2) id q hg
        rwa [show i + (k - i) = k by omega] at this
      · left
        refine heap_same hst hik hk fun j x h1 h2 hx hw => ?_
        exact hld (loadNew_read (P := P) (T := T) (hln j x h1 h2 hx hw)).2.1
  obtain ⟨v, hv, hs⟩ := step_again (hst i o ho) hE hH
  refine step_sound hC ho hs r he fun a' w' hp => hn a' w' ?_
  obtain ⟨φ'', he', r', s'⟩ := hp
  have hli := li_set (listed := listed) hsz
  refine ⟨by rw [Array.size_setIfInBounds]; exact di.sz, fun j x hx hl e hee hb => ?_, ?_⟩
  · rw [hli]
    rcases (hli j).1 hl with rfl | hl'
    · rw [ho] at hx; cases hx
      exact .inr (hedges e hee hb)
    · exact .inr (di.closed j x hx hl' e hee hb)
  · have hilen : (st i).1.length = env'.length := by rw [hlen, st_length hst i (by omega)]
    by_cases hw : kindOf P T o.op = .write
    · -- a writer: all writers ahead of it have run, none behind it
      rw [if_pos hw] at he' r' s'
      refine ⟨φ'', eput env' o.dst v, i + 1, by rw [eput_length, hlen], fun j x t hx hd hl => ?_, fun t hn' => ?_, by omega, fun j x hx hwx => ?_, he', r', s.trans s'⟩
      · rcases (hli j).1 hl with rfl | hl'
        · rw [ho] at hx; cases hx
          rw [hv, hd, eput_same, eput_same, hilen]
        · by_cases hji : j = i
          · subst hji; exact absurd hl' hun
          · rw [eput_other, hhi j x t hx hd hl']
            intro hd'
            rcases Nat.lt_or_gt_of_ne hji with h1 | h1
            · exact hc.dst j i x o h1 hx ho t hd hd'
            · exact hc.dst i j o x h1 ho hx t hd' hd
      · rw [eput_other (fun hd => hn' i o ho hd ((hli i).2 (.inl rfl)))]
        exact hlo t fun j x hx hd hl => hn' j x hx hd ((hli j).2 (.inr hl))
      · rw [hli]
        constructor
        · rintro (rfl | hl)
          · omega
          · rcases Nat.lt_or_ge i j with h1 | h1
            · exact absurd (anc_of_write hc h1 ho hx ⟨hw, by rw [hwx]; intro e; cases e⟩) (hdesc j hl)
            · omega
        · intro hj
          rcases Nat.lt_or_ge j i with h1 | h1
          · exact .inr (hanc j (anc_of_write hc h1 hx ho ⟨hwx, by rw [hw]; intro e; cases e⟩))
          · exact .inl (by omega)
    · -- one that leaves all memory as it is
      rw [if_neg hw] at he' r' s'
      refine ⟨φ'', eput env' o.dst v, k, by rw [eput_length, hlen], fun j x t hx hd hl => ?_, fun t hn' => ?_, hk, fun j x hx hwx => ?_, he', r', s.trans s'⟩
      · rcases (hli j).1 hl with rfl | hl'
        · rw [ho] at hx; cases hx
          rw [hv, hd, eput_same, eput_same, hilen]
        · by_cases hji : j = i
          · subst hji; exact absurd hl' hun
          · rw [eput_other, hhi j x t hx hd hl']
            intro hd'
            rcases Nat.lt_or_gt_of_ne hji with h1 | h1
            · exact hc.dst j i x o h1 hx ho t hd hd'
            · exact hc.dst i j o x h1 ho hx t hd' hd
      · rw [eput_other (fun hd => hn' i o ho hd ((hli i).2 (.inl rfl)))]
        exact hlo t fun j x hx hd hl => hn' j x hx hd ((hli j).2 (.inr hl))
      · rw [hli]
        constructor
        · rintro (rfl | hl)
          · rw [ho] at hx; cases hx; exact absurd hwx hw
          · exact (hwr j x hx hwx).1 hl
        · intro hj
          exact .inr ((hwr j x hx hwx).2 hj)

theorem drawn_any (hC : CallOK P B (withTab T callF)) {Q : Exit → Act → World → Prop} (hQ : ∀ a' w', Post B φ h w0 (st ops.size).1 (st ops.size).2 a' w' → Q .normal a' w') :
    ∀ (fuel : Nat) (listed : Array Bool) (a : Act) (w : World), listed.toList.count false ≤ fuel → DI P B T ops st φ h w0 listed a w → wpAny P .any ops Q fuel listed a w
  | 0, listed, a, w, hf, di => by
    have hall : ∀ j, j < ops.size → Li listed j := fun j hj => by
      have hlt : j < listed.size := by rw [di.sz]; exact hj
      have h0 : listed.toList.count false = 0 := by omega
      rw [List.count_eq_zero] at h0
      have : listed[j] ≠ false := fun e => h0 (by rw [← e]; simp)
      unfold Li
      rw [Array.getD_eq_getD_getElem?, Array.getElem?_eq_getElem hlt]
      simpa using this
    refine ⟨?_, hQ _ _ (di_end hc hst di hall)⟩
    apply List.eq_nil_iff_forall_not_mem.2
    intro j hj
    obtain ⟨h1, h2⟩ := ready_unlisted hj
    exact h2 (hall j (by rw [← di.sz]; exact h1))
  | fuel + 1, listed, a, w, hf, di => by
    refine ⟨fun hr => hQ _ _ (di_end hc hst di fun j hj => all_listed hc hr di.sz (j + 1) j (by omega) hj), fun i hi => ?_⟩
    obtain ⟨h1, h2⟩ := ready_unlisted hi
    exact di_step hc hst hC di hi fun a' w' di' => drawn_any hC hQ fuel _ a' w' (count_set h1 h2 hf) di'
end

theorem drawnOf_ok (hm : P.follows .mixedOrders = true) (hT : PTabOK P B T) : ∀ callF, CallOK P B callF → DrawnOK P B (drawnOf P T callF) := by
  intro callF hC id ops env env' h h' hs φ a w Q r he hn
  unfold drawnOf at hs
  split at hs
  rotate_left
  · cases hs
  rename_i hd
  have hc := dchk hd
  obtain ⟨st, e1, e2, e3⟩ := run_states ops.toList 0 env h (env', h') rfl hs
  have e2 := e2 (Nat.zero_le _)
  refine wp_region_any hm ?_
  refine drawn_any (φ := φ) (h := h) (w0 := w) hc (fun i o ho => e3 i o (Nat.zero_le _) ho) (withTab_ok hT hC) (fun a' w' hp => hn a' w' (by rw [e2] at hp; exact hp)) _ _ _ _ (by simp) ⟨by simp, fun j o ho hl => ?_, φ, env, 0, by rw [e1], fun i o t ho hd' hl => ?_, fun t _ => by rw [e1], Nat.zero_le _, fun i o ho hw => ?_, by rw [e1]; exact he, by rw [e1]; exact r.drew _, by rw [e1]; exact Step.drew φ h w _⟩
  · exfalso
    unfold Li at hl
    rw [Array.getD_eq_getD_getElem?] at hl
    by_cases hj : j < ops.size <;> simp [hj] at hl
  · exfalso
    unfold Li at hl
    rw [Array.getD_eq_getD_getElem?] at hl
    by_cases hj : i < ops.size <;> simp [hj] at hl
  · constructor
    · intro hl
      exfalso
      unfold Li at hl
      rw [Array.getD_eq_getD_getElem?] at hl
      by_cases hj : i < ops.size <;> simp [hj] at hl
    · intro hl; omega
end Go.Proofs.YtobhmahlenjheaaM
