/- A law's arguments: what a reading says of the memory behind them. -/
import Derived.Test.YtlpiiifmidehjaaDoorV21
set_option linter.unusedSimpArgs false
set_option linter.unusedVariables false
namespace Go.Proofs.YtlpiiifmidehjaaDoorM
open Go Go.RowKit Go.ChangeShapes Go.WideShapes Go.Deep

/-- Sizes and places as the program says. -/
def chkT (P : Program) : Nat → TypeId → Ty → Bool
  | 0, _, _ => false
  | n + 1, t, T => P.cellsOf t == T.size && (match P.underlying t, T with
    | some (.int k), .int k' => decide (k = k')
    | some .bool, .bool => true
    | some .string, .str => true
    | some (.slice e), .lst E => decide (0 < E.size) && chkT P n e E
    | some (.struct fs), T => chkFs (chkT P n) fs.toList 0 T
    | _, _ => false)
where chkFs (f : TypeId → Ty → Bool) : List Field → Nat → Ty → Bool
  | [], _, .nil => true
  | fd :: fs, off, .cons A B => fd.offset == off && f fd.type A && chkFs f fs (off + A.size) B
  | _, _, _ => false

/-- Numbers are in their range. -/
def GoodT : (t : Ty) → t.D → Prop
  | .int k, n => (Lit.int k n).wf = true
  | .lst e, l => ∀ x ∈ l, GoodT e x
  | .cons a b, v => GoodT a v.1 ∧ GoodT b v.2
  | .bool, _ => True
  | .str, _ => True
  | .nil, _ => True
  | .map _ _, _ => True

theorem flat_sp {α : Type} {sz : Nat} (hp : 0 < sz) : ∀ {xs : List (List α)} {i : Nat} {x : α}, (∀ y ∈ xs, y.length = sz) → xs.flatten[i]? = some x → ∃ c, xs[i / sz]? = some c ∧ c[i % sz]? = some x
  | [], i, x, _, h => by simp at h
  | y :: ys, i, x, hl, h => by
    have hy := hl y (List.mem_cons_self ..)
    rw [List.flatten_cons] at h
    by_cases hi : i < sz
    · rw [List.getElem?_append_left (by omega)] at h
      exact ⟨y, by rw [Nat.div_eq_of_lt hi]; rfl, by rw [Nat.mod_eq_of_lt hi]; exact h⟩
    · rw [List.getElem?_append_right (by omega), hy] at h
      obtain ⟨c, h1, h2⟩ := flat_sp hp (fun z hz => hl z (List.mem_cons_of_mem _ hz)) h
      have e1 : i / sz = (i - sz) / sz + 1 := by
        have h3 := Nat.add_div_right (i - sz) hp
        rwa [show i - sz + sz = i by omega] at h3
      have e2 : i % sz = (i - sz) % sz := by
        have h3 := Nat.add_mod_right (i - sz) sz
        rwa [show i - sz + sz = i by omega] at h3
      exact ⟨c, by rw [e1]; simpa using h1, by rw [e2]; exact h2⟩

section
variable {H : Type} {enc : TypeId × Value → H} {P : Program} {w : World} {held : Bool}

theorem rows_RW {e : TypeId} {E : Ty} {sz : Nat} (hsz : E.size = sz) (hp : 0 < sz) {a : Addr} {len m : Nat} (hl : len ≤ m)
    (hx : ∀ i, i < m → ∃ cs' v, w.cells? 0 (a.add (i * sz)) sz = some cs' ∧ RW w E cs' v ∧ GoodT E v) :
    ∃ l : List E.D, l.length = len ∧ (∀ x ∈ l, GoodT E x) ∧ ((m = 0 ∧ l = []) ∨
      ∃ (C : Array Value) (ty : TypeId) (lo hi : Nat) (xs : List (List Value)), w.heap[a.block]? = some (.cells C ty (lo, hi)) ∧ a.spot = none ∧ a.off + m * E.size ≤ C.size ∧ All2 (RW w E) xs l ∧ ∀ (i : Nat) (u : Value), xs.flatten[i]? = some u → C[a.off + i]? = some u) := by
  subst hsz
  haveI : Inhabited (List Value × E.D) := ⟨([], E.dflt)⟩
  obtain ⟨X, hX⟩ := choose_lt (α := List Value × E.D) (p := fun i x => w.cells? 0 (a.add (i * E.size)) E.size = some x.1 ∧ RW w E x.1 x.2 ∧ GoodT E x.2) (n := m) (fun i hi => by
    obtain ⟨cs', v, h1, h2, h3⟩ := hx i hi
    exact ⟨(cs', v), h1, h2, h3⟩)
  refine ⟨(List.range len).map fun i => (X i).2, by simp, fun x hx => ?_, ?_⟩
  · obtain ⟨i, hi, rfl⟩ := List.mem_map.1 hx
    exact (hX i (by have := List.mem_range.1 hi; omega)).2.2
  by_cases hc : m = 0
  · left
    have : len = 0 := by omega
    subst this
    exact ⟨hc, rfl⟩
  right
  have cellAt : ∀ i j, i < m → j < E.size → w.cell? (a.add (i * E.size + j)) = (X i).1[j]? ∧ (X i).1.length = E.size := fun i j hi hj => by
    obtain ⟨h1, _⟩ := hX i hi
    obtain ⟨_, hlen, hcell⟩ := World.cells?_some h1
    exact ⟨by rw [← hcell j hj, add_add], hlen⟩
  obtain ⟨c2, c3⟩ := cellAt 0 0 (by omega) hp
  have hsome : ∃ q, w.cell? a = some q := by
    rw [List.getElem?_eq_getElem (by omega)] at c2
    refine ⟨_, (Eq.trans ?_ c2)⟩
    simp [Addr.add]
  obtain ⟨q, hq⟩ := hsome
  unfold World.cell? at hq
  split at hq
  rotate_left
  · cases hq
  rename_i C e' fz hC
  obtain ⟨lo, hi⟩ := fz
  split at hq
  · cases hq
  rename_i hspot
  have hspot' : a.spot = none := by
    cases hs : a.spot with
    | none => rfl
    | some k => rw [hs] at hspot; exact absurd rfl hspot
  have hadd : ∀ k, w.cell? (a.add k) = C[a.off + k]? := fun k => by
    unfold Addr.add
    split
    · rename_i h0; subst h0
      unfold World.cell?
      rw [hC]
      simp [hspot']
    · unfold World.cell?
      simp only
      rw [hC]
      simp
  have hmz : (m - 1) * E.size + E.size = m * E.size := by
    have : m - 1 + 1 = m := by omega
    rw [← Nat.succ_mul, Nat.succ_eq_add_one, this]
  refine ⟨C, e', lo, hi, (List.range len).map fun i => (X i).1, hC, hspot', ?_, ?_, fun i u hu => ?_⟩
  · obtain ⟨d2, d3⟩ := cellAt (m - 1) (E.size - 1) (by omega) (by omega)
    rw [hadd, List.getElem?_eq_getElem (by omega)] at d2
    have := (Array.getElem?_eq_some_iff.1 d2).1
    omega
  · have : ∀ ks : List Nat, (∀ k ∈ ks, k < m) → All2 (RW w E) (ks.map fun i => (X i).1) (ks.map fun i => (X i).2) := by
      intro ks
      induction ks with
      | nil => intro _; trivial
      | cons k ks ih => intro hk; exact ⟨(hX k (hk k (List.mem_cons_self ..))).2.1, ih fun j hj => hk j (List.mem_cons_of_mem _ hj)⟩
    exact this _ fun k hk => by have := List.mem_range.1 hk; omega
  · obtain ⟨c, k1, k2⟩ := flat_sp hp (fun y hy => by
      obtain ⟨j, hj, rfl⟩ := List.mem_map.1 hy
      exact (cellAt j 0 (by have := List.mem_range.1 hj; omega) hp).2) hu
    have hr : i % E.size < E.size := Nat.mod_lt _ hp
    have hql : i / E.size < len := by
      rcases Nat.lt_or_ge (i / E.size) len with h' | h'
      · exact h'
      · rw [List.getElem?_eq_none (by simpa using h')] at k1; cases k1
    rw [List.getElem?_map, List.getElem?_range hql] at k1
    simp only [Option.map_some, Option.some.injEq] at k1
    subst k1
    have hcj := (cellAt (i / E.size) (i % E.size) (by omega) hr).1
    rw [hadd, Nat.mul_comm, Nat.div_add_mod, k2] at hcj
    exact hcj

theorem trod_RW : ∀ (n : Nat) {t : TypeId} {T : Ty} {fuel : Nat} {cs : List Value} {y : DataW H × List MemPlace}, chkT P n t T = true → DataW.trod enc P w 0 (fun _ => true) held fuel t cs = some y → cs.length = T.size → ∃ v : T.D, RW w T cs v ∧ GoodT T v
  | 0, _, _, _, _, _, hc, _, _ => by cases hc
  | n + 1, t, T, fuel, cs, y, hc, ht, hl => by
    simp only [chkT, Bool.and_eq_true, beq_iff_eq] at hc
    obtain ⟨hsz, hc⟩ := hc
    split at hc
    · rename_i k k' hu
      have hk : k = k' := of_decide_eq_true hc
      subst hk
      obtain ⟨c, r, rfl, hr⟩ := uncons hl
      obtain rfl := unnil hr
      obtain ⟨z, rfl, hz⟩ := leaf_int hu ht
      exact ⟨z, rfl, hz⟩
    · rename_i hu
      obtain ⟨c, r, rfl, hr⟩ := uncons hl
      obtain rfl := unnil hr
      obtain ⟨z, rfl⟩ := leaf_bool hu ht
      exact ⟨z, rfl, trivial⟩
    · rename_i hu
      obtain ⟨c, r, rfl, hr⟩ := uncons hl
      obtain rfl := unnil hr
      obtain ⟨z, rfl, _⟩ := leaf_str hu ht
      exact ⟨z, rfl, trivial⟩
    · rename_i e E hu
      obtain ⟨h0, hc⟩ := (Bool.and_eq_true _ _).mp hc
      have h0 := of_decide_eq_true h0
      have hse : P.cellsOf e = E.size := by
        cases n with
        | zero => cases hc
        | succ n => simp only [chkT, Bool.and_eq_true, beq_iff_eq] at hc; exact hc.1
      rcases open_slice hu ht with ⟨rfl, _⟩ | ⟨a, len, cap, m, n', D, Pl, rfl, hb, hlc, hm, hmm, _, hx⟩
      · exact ⟨[], ⟨_, rfl, .inl ⟨rfl, rfl⟩⟩, fun x hx => by cases hx⟩
      · simp only [if_true] at hmm
        subst hmm
        rw [hse] at hx
        obtain ⟨l, hl, hg, hh⟩ := rows_RW (w := w) (e := e) (E := E) rfl h0 hlc (fun i hi => by
          obtain ⟨cs', h1, h2⟩ := hx i hi
          obtain ⟨_, hlen, _⟩ := World.cells?_some h1
          obtain ⟨v, k1, k2⟩ := trod_RW n hc h2 hlen
          exact ⟨cs', v, h1, k1, k2⟩)
        subst hl
        exact ⟨l, ⟨_, rfl, .inr ⟨a, m, rfl, hlc, hh⟩⟩, hg⟩
    · rename_i fs hu
      obtain ⟨xs, n1, _, _, hl1, hxl, hfs⟩ := DataW.trod_struct hu ht
      have key : ∀ (l : List Field) (off : Nat) (B : Ty), chkT.chkFs (chkT P n) l off B = true → (∀ f ∈ l, ∃ y, DataW.trod enc P w 0 (fun _ => true) held n1 f.type ((cs.drop f.offset).take (P.cellsOf f.type)) = some y) → (cs.drop off).length = B.size → ∃ v : B.D, RW w B (cs.drop off) v ∧ GoodT B v := by
        intro l
        induction l with
        | nil =>
          intro off B hB _ hlen
          cases B <;> first | cases hB | skip
          exact ⟨(), List.eq_nil_of_length_eq_zero hlen, trivial⟩
        | cons fd l ih =>
          intro off B hB hy hlen
          cases B <;> first | cases hB | skip
          rename_i A B
          simp only [chkT.chkFs, Bool.and_eq_true, beq_iff_eq] at hB
          obtain ⟨⟨ho, hA⟩, hB⟩ := hB
          subst ho
          obtain ⟨y1, hy1⟩ := hy fd (List.mem_cons_self ..)
          have hsA : P.cellsOf fd.type = A.size := by
            cases n with
            | zero => cases hA
            | succ n => simp only [chkT, Bool.and_eq_true, beq_iff_eq] at hA; exact hA.1
          rw [hsA] at hy1
          have hlen : (cs.drop fd.offset).length = A.size + B.size := hlen
          obtain ⟨v1, r1, g1⟩ := trod_RW n hA hy1 (by rw [List.length_take]; omega)
          obtain ⟨v2, r2, g2⟩ := ih (fd.offset + A.size) B hB (fun f hf => hy f (List.mem_cons_of_mem _ hf)) (by rw [← List.drop_drop, List.length_drop]; omega)
          exact ⟨(v1, v2), ⟨_, _, by rw [← List.drop_drop]; exact (List.take_append_drop _ _).symm, r1, r2⟩, g1, g2⟩
      have := key fs.toList 0 _ hc (fun f hf => by
        obtain ⟨i, hi, rfl⟩ := List.mem_iff_getElem.1 hf
        have hi' : i < fs.size := by simpa using hi
        have h2 := hfs i fs[i] (Array.getElem?_eq_getElem hi')
        rw [List.getElem?_eq_getElem (by omega)] at h2
        exact ⟨_, by simpa using h2⟩) (by rw [List.drop_zero]; exact hl)
      rw [List.drop_zero] at this
      exact this
    · cases hc
end
end Go.Proofs.YtlpiiifmidehjaaDoorM
