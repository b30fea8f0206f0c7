/- Arguments of laws, and a toolbox for plain functions. -/
import Derived.Test.YtobhmahlenjheaaSA
import Derived.Test.YtobhmahlenjheaaChecked
import Derived.KernelRfl
import Derived.Below
import Derived.Lib.Repeat
import Derived.Lib.Bytealg
import Derived.Laws.Externs
import Derived.WalkKit
import Derived.ProofKit
import Derived.OpenShut
import Derived.ShutString
import Derived.ChangeOld
import Derived.SizedLaws
import Derived.Carry
import Derived.Deep.Slices
import Derived.FnData
import Derived.LaidMore
import Derived.Lay
import Derived.Stop.Joined
import Derived.Test.YtobhmahlenjheaaVB
import Derived.Sort.Walk0
import Derived.Lib.IndexLaws
namespace Go.Proofs.YtobhmahlenjheaaM
/-! VX -/
section
set_option linter.unusedSimpArgs false
set_option linter.unusedVariables false
open Go Go.RowKit
section
variable {P : Program} {B : Nat}
theorem VRs.inv_cons {N : Nat → Prop} {φ : Nat → Loc} {x : AV} {xs : List AV} {vs : List Value} (h : VRs N φ (x :: xs) vs) : ∃ v r, vs = v :: r ∧ VR N φ x v ∧ VRs N φ xs r := by
  cases vs with
  | nil => have := h.1; simp at this
  | cons v r => exact ⟨v, r, rfl, h.2 0 _ _ rfl rfl, by simpa using h.1, fun i a b ha hb => h.2 (i + 1) a b (by simpa using ha) (by simpa using hb)⟩
theorem VRs.inv_nil {N : Nat → Prop} {φ : Nat → Loc} {vs : List Value} (h : VRs N φ [] vs) : vs = [] := List.eq_nil_of_length_eq_zero h.1.symm
theorem VR.inv_str {N : Nat → Prop} {φ : Nat → Loc} {s : List UInt8} {v : Value} (h : VR N φ (.str s) v) : v = .string ⟨⟨s⟩⟩ := by cases h; rfl
theorem VR.inv_int {N : Nat → Prop} {φ : Nat → Loc} {k : IntKind} {n : Int} {v : Value} (h : VR N φ (.int k n) v) : v = .int k n := by cases h; rfl
theorem VR.inv_bool {N : Nat → Prop} {φ : Nat → Loc} {b : Bool} {v : Value} (h : VR N φ (.bool b) v) : v = .bool b := by cases h; rfl

end
section
variable {P : Program} {B : Nat}
/-! ### Functions without a body -/
theorem HookOK.ofNative {f : FuncId} {g : List AV → Option AV} {fn : Func} {e : Array Value → Sem Value} (hf : P.funcs[f]? = some fn) (hb : fn.body.isNone = true) (hn : (fn.name == "runtime.NumGoroutine") = false) (h1 : Extern.findNext fn = none) (h2 : Extern.find fn = some e)
    (hg : ∀ args v, g args = some v → freeAV v = true ∧ ∀ (N : Nat → Prop) (φ : Nat → Loc) (args' : List Value), VRs N φ args args' → ∀ w : World, ∃ v', (e args'.toArray).run P w = .ok v' w ∧ ∀ N φ, VR N φ v v') :
    HookOK P B f (fun args h => (g args).map fun v => (v, h)) := by
  intro args h v h' hr φ w args' r ha
  obtain ⟨v0, hv0, hbb⟩ := map_some hr
  cases hbb
  obtain ⟨hfree, hC⟩ := hg args v hv0
  obtain ⟨v', k1, k2⟩ := hC _ _ _ ha w
  have hcf : (callFunc f args'.toArray).run P w = .ok (.value v') w := by
    unfold callFunc
    simp only [Sem.run_bind, run_program, Result.andThen_ok, hf, hn, Bool.false_eq_true, if_false, hb, if_true, h1, h2, run_mark, k1, Sem.run_pure]
  rw [hcf]
  exact ⟨φ, k2 _ _, r, Step.refl _ _ _⟩
theorem byte_nat {c : Int} (h0 : 0 ≤ c) (h1 : c < 256) : ((c.toNat.toUInt8).toNat : Int) = c := by
  have : (c.toNat.toUInt8).toNat = c.toNat % 256 := by simp
  rw [this]; omega
def kx_indexByte : List AV → Option AV
  | [.str s, .int .u8 c] => some (.int .i64 (Lib.indexByte s c.toNat.toUInt8))
  | _ => none
def kx_countByte : List AV → Option AV
  | [.str s, .int .u8 c] => some (.int .i64 (Lib.countByte s c.toNat.toUInt8))
  | _ => none
theorem nat_indexByte {f : FuncId} {fn : Func} (hf : P.funcs[f]? = some fn) (hb : fn.body.isNone = true) (hn : (fn.name == "runtime.NumGoroutine") = false) (h1 : Extern.findNext fn = none) (h2 : Extern.find fn = some Extern.BytealgIndexByte.indexByte) : HookOK P B f (fun args h => (kx_indexByte args).map fun v => (v, h)) := by
  refine HookOK.ofNative hf hb hn h1 h2 fun args v hv => ?_
  unfold kx_indexByte at hv
  split at hv
  rotate_left
  · cases hv
  cases hv
  refine ⟨rfl, fun N φ args' ha w => ?_⟩
  obtain ⟨v1, r1, rfl, h1, ha⟩ := ha.inv_cons
  obtain ⟨v2, r2, rfl, h2, ha⟩ := ha.inv_cons
  obtain rfl := ha.inv_nil
  obtain rfl := h1.inv_str
  obtain rfl := h2.inv_int
  exact ⟨_, Lib.run_indexByteString _ _ w, fun N φ => .int _ _⟩
theorem nat_countByte {f : FuncId} {fn : Func} (hf : P.funcs[f]? = some fn) (hb : fn.body.isNone = true) (hn : (fn.name == "runtime.NumGoroutine") = false) (h1 : Extern.findNext fn = none) (h2 : Extern.find fn = some Extern.BytealgCount.count) : HookOK P B f (fun args h => (kx_countByte args).map fun v => (v, h)) := by
  refine HookOK.ofNative hf hb hn h1 h2 fun args v hv => ?_
  unfold kx_countByte at hv
  split at hv
  rotate_left
  · cases hv
  cases hv
  refine ⟨rfl, fun N φ args' ha w => ?_⟩
  obtain ⟨v1, r1, rfl, h1, ha⟩ := ha.inv_cons
  obtain ⟨v2, r2, rfl, h2, ha⟩ := ha.inv_cons
  obtain rfl := ha.inv_nil
  obtain rfl := h1.inv_str
  obtain rfl := h2.inv_int
  exact ⟨_, Lib.run_countString _ _ w, fun N φ => .int _ _⟩
end
section
variable {K : PureK}
def hb77 : List AV → Option AV
  | [x] => some x
  | _ => none
theorem hb_hook (hk : K 128 = some hb77) : hooksOf K 128 = some handsBack := by
  simp only [hooksOf, hk, Option.map_some, Option.some.injEq]
  funext args g
  unfold hb77 handsBack
  split
  · rfl
  · rename_i hne
    split
    · rename_i x; exact absurd rfl (hne x)
    · rfl
set_option maxRecDepth 100000 in
theorem hb_ok {B : Nat} : HookOK Try.prog B 128 (fun args h => (hb77 args).map fun v => (v, h)) := by
  have := HookOK.noEscape (B := B) Try.func128 (by kernel_rfl) (by kernel_rfl) (by kernel_rfl) rfl
  have e : (fun args h => (hb77 args).map fun v => (v, h)) = handsBack := by
    funext args g
    unfold hb77 handsBack
    split
    · rfl
    · rename_i hne
      split
      · rename_i x; exact absurd rfl (hne x)
      · rfl
  rw [e]; exact this


end

end
/-! OP -/
section
set_option linter.unusedSimpArgs false
set_option linter.unusedVariables false
open Go Go.RowKit Go.ChangeShapes

theorem uncons {α : Type} {n : Nat} {l : List α} (h : l.length = n + 1) : ∃ c r, l = c :: r ∧ r.length = n := by
  cases l with
  | nil => cases h
  | cons c r => exact ⟨c, r, rfl, by simpa using h⟩
theorem unnil {α : Type} {l : List α} (h : l.length = 0) : l = [] := List.eq_nil_of_length_eq_zero h

section
variable {H : Type} {enc : TypeId × Value → H} {P : Program} {w : World} {base : Nat} {sp : Nat → Bool} {held : Bool}

theorem open_structK {r : Reach} {b0 : Nat} {t : TypeId} {fs : Array Field} {v : Value} {d : DataW H} {ps : List MemPlace} (ht : P.underlying t = some (.struct fs)) (hval : Value.okWide P w r b0 t v) (hd : DataW.Trod enc P w base sp held t v d ps) :
    ∃ (cl : List Value) (xs : List (DataW H × List MemPlace)) (n : Nat), v = .agg cl.toArray ∧ cl.length = P.cellsOf t ∧ xs.length = fs.size ∧
      ∀ (i : Nat) (f : Field), fs[i]? = some f → DataW.trod enc P w base sp held n f.type ((cl.drop f.offset).take (P.cellsOf f.type)) = xs[i]? := by
  unfold Value.okWide at hval
  rw [ht] at hval
  obtain ⟨cs, rfl, hsz, _⟩ := hval
  obtain ⟨fuel, hf⟩ := hd
  obtain ⟨xs, n, _, _, hl, hxl, hfs⟩ := DataW.trod_struct ht hf
  exact ⟨cs.toList, xs, n, by simp, by simpa [Value.cells] using hsz, hxl, by simpa [Value.cells] using hfs⟩

theorem open_arrayK {r : Reach} {b0 : Nat} {t e : TypeId} {m : Nat} {v : Value} {d : DataW H} {ps : List MemPlace} (ht : P.underlying t = some (.array m e)) (hval : Value.okWide P w r b0 t v) (hd : DataW.Trod enc P w base sp held t v d ps) :
    ∃ (cl : List Value) (n : Nat), v = .agg cl.toArray ∧ cl.length = P.cellsOf t ∧
      ∀ (i : Nat), i < m → ∃ y, DataW.trod enc P w base sp held n e ((cl.drop (i * P.cellsOf e)).take (P.cellsOf e)) = some y := by
  unfold Value.okWide at hval
  rw [ht] at hval
  obtain ⟨cs, rfl, hsz, _⟩ := hval
  obtain ⟨fuel, hf⟩ := hd
  obtain ⟨xs, n, _, _, hl, hxl, hfs⟩ := DataW.trod_array ht hf
  refine ⟨cs.toList, n, by simp, by simpa using hsz, fun i hi => ?_⟩
  have := hfs i hi
  rw [List.getElem?_eq_getElem (by omega)] at this
  exact ⟨_, this⟩

theorem field_at {fs : Array Field} {cl : List Value} {xs : List (DataW H × List MemPlace)} {n : Nat} (hf : ∀ (i : Nat) (f : Field), fs[i]? = some f → DataW.trod enc P w base sp held n f.type ((cl.drop f.offset).take (P.cellsOf f.type)) = xs[i]?)
    (hx : xs.length = fs.size) (i : Nat) (f : Field) (hi : fs[i]? = some f) (c : Value) (hc : (cl.drop f.offset).take (P.cellsOf f.type) = [c]) : ∃ y, DataW.trod enc P w base sp held n f.type [c] = some y := by
  have h1 := hf i f hi
  rw [hc] at h1
  have hlt : i < fs.size := (Array.getElem?_eq_some_iff.1 hi).1
  rw [List.getElem?_eq_getElem (by omega)] at h1
  exact ⟨_, h1⟩

theorem leaf_int {t : TypeId} {k : IntKind} {n : Nat} {c : Value} {y : DataW H × List MemPlace} (ht : P.underlying t = some (.int k)) (h : DataW.trod enc P w base sp held n t [c] = some y) : ∃ z, c = .int k z ∧ (Lit.int k z).wf = true := by
  obtain ⟨z, h1, _, h2⟩ := DataW.trod_int ht h
  simp at h1
  exact ⟨z, h1, h2⟩
theorem leaf_bool {t : TypeId} {n : Nat} {c : Value} {y : DataW H × List MemPlace} (ht : P.underlying t = some .bool) (h : DataW.trod enc P w base sp held n t [c] = some y) : ∃ z, c = .bool z := by
  cases n with
  | zero => simp [DataW.trod] at h
  | succ n =>
    unfold DataW.trod at h
    rw [ht] at h
    split at h <;> simp_all
theorem leaf_str {t : TypeId} {n : Nat} {c : Value} {y : DataW H × List MemPlace} (ht : P.underlying t = some .string) (h : DataW.trod enc P w base sp held n t [c] = some y) : ∃ s : List UInt8, c = .string ⟨⟨s⟩⟩ ∧ s.length ≤ maxLen := by
  obtain ⟨s, h1, _, h2⟩ := DataW.trod_string ht h
  simp at h1
  obtain ⟨⟨l⟩⟩ := s
  exact ⟨l, h1, by simpa [ByteArray.size] using h2⟩
end

/-- The bounds of a number. -/
theorem wf_i64 {n : Int} (h : (Lit.int .i64 n).wf = true) : -9223372036854775808 ≤ n ∧ n < 9223372036854775808 := by
  simp [Lit.wf, IntKind.min, IntKind.max, IntKind.bits, IntKind.signed] at h; omega
theorem wf_u64 {n : Int} (h : (Lit.int .u64 n).wf = true) : 0 ≤ n ∧ n < 18446744073709551616 := by
  simp [Lit.wf, IntKind.min, IntKind.max, IntKind.bits, IntKind.signed] at h; omega
theorem wf_u32 {n : Int} (h : (Lit.int .u32 n).wf = true) : 0 ≤ n ∧ n < 4294967296 := by
  simp [Lit.wf, IntKind.min, IntKind.max, IntKind.bits, IntKind.signed] at h; omega
theorem wf_u8 {n : Int} (h : (Lit.int .u8 n).wf = true) : 0 ≤ n ∧ n < 256 := by
  simp [Lit.wf, IntKind.min, IntKind.max, IntKind.bits, IntKind.signed] at h; omega

theorem VR.aggOf {N : Nat → Prop} {φ : Nat → Loc} {xs : List AV} {vs : List Value} (h : VRs N φ xs vs) : VR N φ (.agg xs) (.agg vs.toArray) :=
  .agg _ _ (by simpa using h.1) fun i x v hx hv => h.2 i x v hx (by simpa using hv)

end
/-! OP2 -/
section
set_option linter.unusedSimpArgs false
set_option linter.unusedVariables false
open Go Go.RowKit Go.ChangeShapes Go.WideShapes Go.Deep

/-- A slice of plain elements, as it lies in memory. -/
def ArgS (w : World) (sz : Nat) {α : Type} (f : α → List AV) (v : Value) (zs : List α) : Prop :=
  (∀ z ∈ zs, (f z).length = sz) ∧ ((v = .slice none 0 0 ∧ zs = []) ∨ ∃ (a : Addr) (cap : Nat), v = .slice (some a) zs.length cap ∧ zs.length ≤ cap ∧
    ((cap = 0 ∧ zs = []) ∨ ∃ (C : Array Value) (e : TypeId) (lo hi : Nat), w.heap[a.block]? = some (.cells C e (lo, hi)) ∧ a.spot = none ∧ a.off + cap * sz ≤ C.size ∧
      ∀ (i : Nat) (x : AV), (zs.map f).flatten[i]? = some x → ∃ u, C[a.off + i]? = some u ∧ ∀ N φ, VR N φ x u))

section
variable {H : Type} {enc : TypeId × Value → H} {P : Program} {w : World} {held : Bool}

theorem flat_at {xs : List (List AV)} {sz : Nat} (hx : ∀ x ∈ xs, x.length = sz) (hp : 0 < sz) {i : Nat} {x : AV} (h : xs.flatten[i]? = some x) : ∃ c, xs[i / sz]? = some c ∧ c[i % sz]? = some x := by
  have hlt : i < xs.flatten.length := by
    rcases Nat.lt_or_ge i xs.flatten.length with h' | h'
    · exact h'
    · rw [List.getElem?_eq_none h'] at h; cases h
  rw [flat_len hx] at hlt
  have hq : i / sz < xs.length := Nat.div_lt_of_lt_mul (by rwa [Nat.mul_comm])
  refine ⟨xs[i / sz], List.getElem?_eq_getElem hq, ?_⟩
  obtain ⟨f1, f2⟩ := flat_get hx (i / sz) _ (List.getElem?_eq_getElem hq)
  have hr : i % sz < sz := Nat.mod_lt _ hp
  rw [← f1, List.getElem?_take, if_pos hr, List.getElem?_drop, Nat.mul_comm, Nat.div_add_mod]
  exact h

theorem open_sliceC {t e : TypeId} {v : Value} {fuel : Nat} {y : DataW H × List MemPlace} (ht : P.underlying t = some (.slice e)) {sz : Nat} (hsz : P.cellsOf e = sz) (hp : 0 < sz) (hf : DataW.trod enc P w 0 (fun _ => true) held fuel t [v] = some y) {α : Type} [Inhabited α] (f : α → List AV) (good : α → Prop)
    (he : ∀ n cs y, DataW.trod enc P w 0 (fun _ => true) held n e cs = some y → cs.length = sz → ∃ x : α, good x ∧ (f x).length = sz ∧ ∀ N φ, VRs N φ (f x) cs) :
    ∃ zs : List α, (∀ z ∈ zs, good z) ∧ ArgS w sz f v zs := by
  rcases open_slice ht hf with ⟨h0, _⟩ | ⟨a', len, cap, m, n, D, Pl, h0, hb, hl, hm, hmm, _, hx⟩
  · obtain rfl : v = _ := (List.cons.inj h0).1
    exact ⟨[], fun z hz => (by cases hz), fun z hz => (by cases hz), .inl ⟨rfl, rfl⟩⟩
  · obtain rfl : v = _ := (List.cons.inj h0).1
    simp only [if_true] at hmm
    subst hmm
    rw [hsz] at hx
    obtain ⟨X, hX⟩ := choose_lt (α := α) (p := fun i x => good x ∧ (f x).length = sz ∧ ∃ cs', w.cells? 0 (a'.add (i * sz)) sz = some cs' ∧ ∀ N φ, VRs N φ (f x) cs') (n := m) (fun i hi => by
      obtain ⟨cs', h1, h2⟩ := hx i hi
      obtain ⟨_, hlen, _⟩ := World.cells?_some h1
      obtain ⟨x, g1, g2, g3⟩ := he _ _ _ h2 hlen
      exact ⟨x, g1, g2, cs', h1, g3⟩)
    have hgood : ∀ z ∈ (List.range len).map X, ∃ i, i < m ∧ X i = z := fun z hz => by
      obtain ⟨i, hi, rfl⟩ := List.mem_map.1 hz
      exact ⟨i, by have := List.mem_range.1 hi; omega, rfl⟩
    have hfl : ∀ z ∈ (List.range len).map X, (f z).length = sz := fun z hz => by obtain ⟨i, hi, rfl⟩ := hgood z hz; exact (hX i hi).2.1
    refine ⟨(List.range len).map X, fun z hz => by obtain ⟨i, hi, rfl⟩ := hgood z hz; exact (hX i hi).1, hfl, .inr ⟨a', m, by simp, by simpa using hl, ?_⟩⟩
    by_cases hc : m = 0
    · left
      exact ⟨hc, by have : len = 0 := by omega
                    subst this; rfl⟩
    · right
      have cellAt : ∀ i j, i < m → j < sz → ∃ cs', w.cells? 0 (a'.add (i * sz)) sz = some cs' ∧ w.cell? (a'.add (i * sz + j)) = cs'[j]? ∧ cs'.length = sz := fun i j hi hj => by
        obtain ⟨_, _, cs', h1, _⟩ := hX i hi
        obtain ⟨_, hlen, hcell⟩ := World.cells?_some h1
        exact ⟨cs', h1, by rw [← hcell j hj, add_add], hlen⟩
      obtain ⟨cs0, c1, c2, c3⟩ := cellAt 0 0 (by omega) hp
      have hsome : ∃ q, w.cell? a' = some q := by
        rw [List.getElem?_eq_getElem (by omega)] at c2
        refine ⟨_, (Eq.trans ?_ c2)⟩
        simp [Addr.add]
      obtain ⟨q, hq⟩ := hsome
      unfold World.cell? at hq
      split at hq
      rotate_left
      · cases hq
      rename_i C e' fz hC
      obtain ⟨lo, hi⟩ := fz
      split at hq
      · cases hq
      rename_i hspot
      have hspot' : a'.spot = none := by
        cases hs : a'.spot with
        | none => rfl
        | some k => rw [hs] at hspot; exact absurd rfl hspot
      have hadd : ∀ k, w.cell? (a'.add k) = C[a'.off + k]? := fun k => by
        unfold Addr.add
        split
        · rename_i h0; subst h0
          unfold World.cell?
          rw [hC]
          simp [hspot']
        · unfold World.cell?
          simp only
          rw [hC]
          simp
      have hmz : (m - 1) * sz + sz = m * sz := by
        have : m - 1 + 1 = m := by omega
        rw [← Nat.succ_mul, Nat.succ_eq_add_one, this]
      refine ⟨C, e', lo, hi, hC, hspot', ?_, fun i x hx' => ?_⟩
      · obtain ⟨cs', d1, d2, d3⟩ := cellAt (m - 1) (sz - 1) (by omega) (by omega)
        rw [hadd, List.getElem?_eq_getElem (by omega)] at d2
        have := (Array.getElem?_eq_some_iff.1 d2).1
        omega
      · obtain ⟨c, k1, k2⟩ := flat_at (xs := ((List.range len).map X).map f) (fun y hy => by obtain ⟨z, hz, rfl⟩ := List.mem_map.1 hy; exact hfl z hz) hp hx'
        have hr : i % sz < sz := Nat.mod_lt _ hp
        have hql : i / sz < len := by
          rcases Nat.lt_or_ge (i / sz) len with h' | h'
          · exact h'
          · rw [List.getElem?_eq_none (by simpa using h')] at k1; cases k1
        rw [List.getElem?_map, List.getElem?_map, List.getElem?_range hql] at k1
        simp only [Option.map_some, Option.some.injEq] at k1
        subst k1
        obtain ⟨_, _, cs', h1, h2⟩ := hX (i / sz) (by omega)
        obtain ⟨_, hlen, hcell⟩ := World.cells?_some h1
        have hcj := hcell (i % sz) hr
        rw [add_add, hadd, Nat.mul_comm, Nat.div_add_mod] at hcj
        rw [List.getElem?_eq_getElem (by omega)] at hcj
        exact ⟨_, hcj, fun N φ => (h2 N φ).2 _ _ _ k2 (List.getElem?_eq_getElem (by omega))⟩
theorem open_sliceK {r : Reach} {b0 : Nat} {t e : TypeId} {v : Value} {d : DataW H} {ps : List MemPlace} (ht : P.underlying t = some (.slice e)) {sz : Nat} (hsz : P.cellsOf e = sz) (hp : 0 < sz) (hval : Value.okWide P w r b0 t v)
    (hd : DataW.Trod enc P w 0 (fun _ => true) held t v d ps) {α : Type} [Inhabited α] (f : α → List AV) (good : α → Prop)
    (he : ∀ n cs y, DataW.trod enc P w 0 (fun _ => true) held n e cs = some y → cs.length = sz → ∃ x : α, good x ∧ (f x).length = sz ∧ ∀ N φ, VRs N φ (f x) cs) :
    ∃ zs : List α, (∀ z ∈ zs, good z) ∧ ArgS w sz f v zs := by
  obtain ⟨a, len, cap, rfl⟩ := okWide_slice ht hval
  obtain ⟨fuel, hf⟩ := hd
  exact open_sliceC (fuel := fuel) ht hsz hp hf f good he

end

/-- Where such a slice lies in the machine's memory. -/
theorem ArgS.place {w : World} {sz : Nat} {α : Type} {f : α → List AV} {v : Value} {zs : List α} (h : ArgS w sz f v zs) :
    ∃ (loc : Loc) (o : AO), o.owned = false ∧ (∀ N φ, ObjR N φ loc o w.heap[loc.b]?) ∧ ∀ (g : AH) (φ : Nat → Loc) (id : Nat), g.get id = some o → φ id = loc → ∃ u, VR g.ok φ u v ∧ RO sz u g (zs.map f) := by
  obtain ⟨hf, h⟩ := h
  have hx : ∀ x ∈ zs.map f, x.length = sz := fun x hx => by obtain ⟨z, hz, rfl⟩ := List.mem_map.1 hx; exact hf z hz
  rcases h with ⟨rfl, rfl⟩ | ⟨a, cap, rfl, hl, ⟨rfl, rfl⟩ | ⟨C, e, lo, hi, hC, hs, hle, hc⟩⟩
  · exact ⟨⟨0, 0, 0⟩, .dead, rfl, fun N φ => trivial, fun g φ id hg hφ => ⟨.val (.slice none 0 0), .val _, hx, .inl ⟨rfl, rfl⟩⟩⟩
  · exact ⟨⟨a.block, a.off, 0⟩, .dead, rfl, fun N φ => trivial, fun g φ id hg hφ => ⟨.sl id 0 0 sz, .sl id 0 0 sz a 0 ⟨_, hg⟩ (Nat.le_refl _) (.inl rfl), hx, .inr (.inr ⟨rfl, id, 0, rfl⟩)⟩⟩
  · have hfl := flat_len hx
    rw [List.length_map] at hfl
    have hcz : zs.length * sz ≤ cap * sz := Nat.mul_le_mul_right _ hl
    refine ⟨⟨a.block, a.off, C.size⟩, .cells (zs.map f).flatten false 0 none, rfl, fun N φ => ⟨C, e, lo, hi, hC, rfl, by simp only; omega, fun i x hx' => let ⟨u, h1, h2⟩ := hc i x hx'; ⟨u, h1, h2 N φ⟩, fun hh => (by cases hh), fun t b hh => by cases hh⟩, fun g φ id hg hφ => ⟨.sl id 0 zs.length sz, .sl id 0 zs.length sz a cap ⟨_, hg⟩ hl (.inr ⟨?_, ?_⟩), hx, .inr (.inl ⟨id, 0, _, _, _, _, by rw [List.length_map], hg, by rw [List.length_map]; omega, by rw [List.length_map, List.drop_zero, List.take_of_length_le (by omega)]⟩)⟩⟩
    · rw [hφ]; obtain ⟨b, o, s⟩ := a; simp only at hs; subst hs; rfl
    · rw [hφ]; simpa using hle

theorem Rel.args {w : World} {φ : Nat → Loc} {h : AH} (ho : ∀ id o, h.get id = some o → o.owned = false ∧ ∀ N ψ, ObjR N ψ (φ id) o w.heap[(φ id).b]?) : Rel w.heap.size φ h w :=
  ⟨fun id o hg => (ho id o hg).2 _ _, fun id o hg hw => (by rw [(ho id o hg).1] at hw; cases hw), fun i j o p hi hj hw _ _ => (by rw [(ho i o hi).1] at hw; cases hw), Nat.le_refl _⟩

end
/-! OP3v -/
section
set_option linter.unusedSimpArgs false
set_option linter.unusedVariables false
open Go Go.RowKit Go.ChangeShapes Go.WideShapes

/-- A package variable's block shows such cells. -/
def GIn (w : World) (g : Nat) (c : List AV) : Prop := ∃ (C : Array Value) (e : TypeId) (lo hi : Nat), w.heap[g]? = some (.cells C e (lo, hi)) ∧ c.length ≤ C.size ∧ ∀ (i : Nat) (x : AV), c[i]? = some x → ∃ v, C[i]? = some v ∧ ∀ N φ, VR N φ x v
theorem GIn.obj {w : World} {g : Nat} {c : List AV} (h : GIn w g c) (N : Nat → Prop) (φ : Nat → Loc) {loc : Loc} (hl : loc.b = g) : ObjR N φ loc (.gvar g c) w.heap[loc.b]? := by
  obtain ⟨C, e, lo, hi, h1, h2, h3⟩ := h
  exact ⟨hl, C, e, lo, hi, by rw [hl]; exact h1, h2, fun i x hx => let ⟨v, a, b⟩ := h3 i x hx; ⟨v, a, b N φ⟩⟩

section
variable {H : Type} {enc : TypeId × Value → H} {P : Program} {w : World}
theorem laid_arr {name : String} {g t e n sz fuel : Nat} {cs : Array Value} {sp : Nat → Bool} {held : Bool} {base : Nat} {p : List MemPlace} (hg : P.globalNamed name = some g) (hv : w.var? P name = some cs) (ht : P.underlying t = some (.array n e)) (hsz : P.cellsOf e = sz) (hct : P.cellsOf t = n * sz) (hp : 0 < sz)
    {α : Type} (f : α → List AV) (gd : α → DataW H) (zs : List α) (hn : zs.length = n) (hd : DataW.trod enc P w base sp held fuel t cs.toList = some (.agg (zs.map gd), p)) (hl : ∀ x, (f x).length = sz)
    (he : ∀ x m cs' p', DataW.trod enc P w base sp held m e cs' = some (gd x, p') → cs'.length = sz → ∀ N φ, VRs N φ (f x) cs') : GIn w g (zs.map f).flatten := by
  obtain ⟨xs, m, _, hx, hlen, hxl, hel⟩ := DataW.trod_array ht hd
  rw [hct, ← hn] at hlen
  rw [hsz] at hel
  have hfl : ∀ x ∈ zs.map f, x.length = sz := fun x hx => by obtain ⟨z, _, rfl⟩ := List.mem_map.1 hx; exact hl z
  have hft := flat_len hfl
  rw [List.length_map] at hft
  have ha : zs.map gd = xs.map (·.1) := DataW.agg.inj (Prod.mk.inj hx).1
  have hh : ∃ e' lo hi, w.heap[g]? = some (.cells cs e' (lo, hi)) := by
    unfold World.var? at hv
    rw [hg, Option.bind_some] at hv
    split at hv
    · rename_i c t' fz hc
      cases hv
      exact ⟨t', fz.1, fz.2, hc⟩
    · cases hv
  obtain ⟨e', lo, hi, hh⟩ := hh
  refine ⟨cs, e', lo, hi, hh, by rw [hft]; simp at hlen; omega, fun i x hx' => ?_⟩
  obtain ⟨c, k1, k2⟩ := flat_at hfl hp hx'
  have hr : i % sz < sz := Nat.mod_lt _ hp
  have hql : i / sz < zs.length := by
    rcases Nat.lt_or_ge (i / sz) zs.length with h' | h'
    · exact h'
    · rw [List.getElem?_eq_none (by simpa using h')] at k1; cases k1
  rw [List.getElem?_map, List.getElem?_eq_getElem hql] at k1
  simp only [Option.map_some, Option.some.injEq] at k1
  have hq := hel (i / sz) (by omega)
  rw [List.getElem?_eq_getElem (show i / sz < xs.length by omega)] at hq
  have hz : (xs[i / sz]'(by omega)).1 = gd zs[i / sz] := by
    have : (zs.map gd)[i / sz]? = (xs.map (·.1))[i / sz]? := by rw [ha]
    rw [List.getElem?_map, List.getElem?_map, List.getElem?_eq_getElem hql, List.getElem?_eq_getElem (show i / sz < xs.length by omega)] at this
    simpa using this.symm
  have hmz : (i / sz) * sz + sz ≤ cs.toList.length := by
    rw [hlen, ← Nat.succ_mul]; exact Nat.mul_le_mul_right _ hql
  have hcl : ((cs.toList.drop (i / sz * sz)).take sz).length = sz := by simp only [List.length_take, List.length_drop]; omega
  have hvr := he zs[i / sz] m _ (xs[i / sz]'(by omega)).2 (by rw [hq, ← hz]) hcl
  have hidx : ((cs.toList.drop (i / sz * sz)).take sz)[i % sz]? = cs[i]? := by
    rw [List.getElem?_take, if_pos hr, List.getElem?_drop, Nat.mul_comm, Nat.div_add_mod, Array.getElem?_toList]
  rw [List.getElem?_eq_getElem (show i % sz < _ by omega)] at hidx
  refine ⟨_, hidx.symm, fun N φ => (hvr N φ).2 (i % sz) x _ (by rw [k1]; exact k2) (List.getElem?_eq_getElem (by omega))⟩

theorem laid_int {t : TypeId} {k : IntKind} {sp : Nat → Bool} {held : Bool} {base : Nat} (ht : P.underlying t = some (.int k)) {z : Int} {m : Nat} {cs' : List Value} {p' : List MemPlace} (h : DataW.trod enc P w base sp held m t cs' = some (.lit (.int k z), p')) : cs' = [.int k z] := by
  obtain ⟨y, e1, e2, _⟩ := DataW.trod_int ht h
  have := DataW.lit.inj (Prod.mk.inj e2).1
  cases this
  exact e1
theorem laid_ints {t : TypeId} {k : IntKind} {sp : Nat → Bool} {held : Bool} {base : Nat} (ht : P.underlying t = some (.int k)) (x : Int) (m : Nat) (cs' : List Value) (p' : List MemPlace) (h : DataW.trod enc P w base sp held m t cs' = some (.lit (.int k x), p')) (_ : cs'.length = 1) : ∀ N φ, VRs N φ (cellI k x) cs' := by
  rw [laid_int ht h]
  intro N φ
  exact VRs.cons (.int _ _) (VRs.nil _ _)
/-- A struct of two numbers. -/
theorem laid_pair {t t1 t2 : TypeId} {k1 k2 : IntKind} {fs : Array Field} {sp : Nat → Bool} {held : Bool} {base : Nat} (ht : P.underlying t = some (.struct fs)) (hs : fs.size = 2) (hf : (fs[0]?).map (fun f => (f.type, f.offset)) = some (t1, 0)) (hf2 : (fs[1]?).map (fun f => (f.type, f.offset)) = some (t2, 1))
    (h1 : P.underlying t1 = some (.int k1)) (h2 : P.underlying t2 = some (.int k2)) (c1 : P.cellsOf t1 = 1) (c2 : P.cellsOf t2 = 1) (x y : Int) (m : Nat) (cs' : List Value) (p' : List MemPlace)
    (h : DataW.trod enc P w base sp held m t cs' = some (.agg [.lit (.int k1 x), .lit (.int k2 y)], p')) (hl : cs'.length = 2) : ∀ N φ, VRs N φ [.int k1 x, .int k2 y] cs' := by
  obtain ⟨xs, n1, _, hx, hl1, hxl, hfs⟩ := DataW.trod_struct ht h
  obtain ⟨a, r, rfl, hr⟩ : ∃ a r, cs' = a :: r ∧ r.length = 1 := by
    cases cs' with
    | nil => cases hl
    | cons a r => exact ⟨a, r, rfl, by simpa using hl⟩
  obtain ⟨b, rfl⟩ : ∃ b, r = [b] := List.length_eq_one_iff.1 hr
  have hxs : xs.map (·.1) = [.lit (.int k1 x), .lit (.int k2 y)] := (DataW.agg.inj (Prod.mk.inj hx).1).symm
  obtain ⟨f0, e0, q0⟩ := Option.map_eq_some_iff.1 hf
  obtain ⟨f1, e1, q1⟩ := Option.map_eq_some_iff.1 hf2
  have g0 := hfs 0 f0 e0
  have g1 := hfs 1 f1 e1
  simp only [Prod.mk.injEq] at q0 q1
  rw [q0.1, q0.2, c1] at g0
  rw [q1.1, q1.2, c2] at g1
  simp only [List.drop_zero, List.take_succ_cons, List.take_zero, List.drop_succ_cons] at g0 g1
  have z0 : (xs.map (·.1))[0]? = some (.lit (.int k1 x)) := by rw [hxs]; rfl
  have z1 : (xs.map (·.1))[1]? = some (.lit (.int k2 y)) := by rw [hxs]; rfl
  rw [List.getElem?_map] at z0 z1
  obtain ⟨u0, v0, w0⟩ := Option.map_eq_some_iff.1 z0
  obtain ⟨u1, v1, w1⟩ := Option.map_eq_some_iff.1 z1
  rw [v0] at g0
  rw [v1] at g1
  have r0 := laid_int h1 (g0.trans (by rw [← w0]) : _ = some (.lit (.int k1 x), u0.2))
  have r1 := laid_int h2 (g1.trans (by rw [← w1]) : _ = some (.lit (.int k2 y), u1.2))
  simp only [List.cons.injEq, and_true] at r0 r1
  subst r0; subst r1
  intro N φ
  exact VRs.cons (.int _ _) (VRs.cons (.int _ _) (VRs.nil _ _))
end

end
/-! VN -/
section
set_option linter.unusedSimpArgs false
set_option linter.unusedVariables false
open Go Go.RowKit

theorem HookOK.mono {P : Program} {B : Nat} {f : FuncId} {k k' : List AV → Option AV} (h : HookOK P B f (fun args h => (k' args).map fun v => (v, h))) (hk : ∀ args v, k args = some v → k' args = some v) : HookOK P B f (fun args h => (k args).map fun v => (v, h)) := by
  intro args g v h' hr φ w args' r ha
  refine h args g v h' ?_ φ w args' r ha
  obtain ⟨v0, hv0, e⟩ := map_some hr
  show (k' args).map _ = _
  rw [hk args v0 hv0]
  exact congrArg some e
/-- What a hook's arguments are, where they fit. -/
theorem kOf_inv {e : VEnt} {args : List AV} {v : AV} (hos : e.ps.os = []) (hk : kOf e args = some v) : ∃ p q, e.F p = some q ∧ unpAlt e.rs q outAV = some v ∧ EnvR g0 [] (e.ps.unp p).ts args := by
  unfold kOf at hk
  obtain ⟨p, hpk, hk⟩ := Option.bind_eq_some_iff.1 hk
  obtain ⟨q, hq, hk⟩ := Option.bind_eq_some_iff.1 hk
  have E0 : EnvR g0 [] (VS.mk (args.map svOf) []).ts args := ⟨by simp, fun d s x k1 k2 => by
    have k1' : (args.map svOf)[d]? = some s := k1
    rw [List.getElem?_map, k2] at k1'
    cases k1'
    exact svOf_ok x⟩
  obtain ⟨_, E1⟩ := Sh.pack_ok (S := ⟨args.map svOf, []⟩) hpk (VMem.empty ⟨0, []⟩) E0
  exact ⟨p, q, hq, hk, E1⟩
theorem envR_pv {T : Ty} {v : T.D} {x : AV} {g : FM} {H : List AV} (hf : T.flat = true) (h : SVR g H (.pv T v) x) : x = encV T v := by
  obtain ⟨y, hy, h⟩ := h
  cases hy
  exact repV_enc hf h
theorem envR_cons {g : FM} {H : List AV} {s : SV} {ts : List SV} {args : List AV} (E : EnvR g H (s :: ts) args) : ∃ x r, args = x :: r ∧ SVR g H s x ∧ EnvR g H ts r := by
  cases args with
  | nil => exact absurd E.len (by simp)
  | cons x r => exact ⟨x, r, rfl, E.get 0 _ _ rfl rfl, by simpa using E.len, fun d s' x' h1 h2 => E.get (d + 1) s' x' (by simpa using h1) (by simpa using h2)⟩
theorem envR_nil {g : FM} {H : List AV} {args : List AV} (E : EnvR g H [] args) : args = [] := List.eq_nil_of_length_eq_zero E.len

def F_countByte (s : List UInt8) (c : Int) : Option (Int × Unit) := some ((Lib.countByte s c.toNat.toUInt8 : Int), ())
def F_indexByte (s : List UInt8) (c : Int) : Option (Int × Unit) := some (Lib.indexByte s c.toNat.toUInt8, ())
def eCountByte (f : FuncId) : VEnt := ⟨f, ⟨[.pv .str, .pv (.int .u8)], []⟩, [⟨[.pv (.int .i64)], []⟩], fun q => F_countByte q.1 q.2.1⟩
def eIndexByte (f : FuncId) : VEnt := ⟨f, ⟨[.pv .str, .pv (.int .u8)], []⟩, [⟨[.pv (.int .i64)], []⟩], fun q => F_indexByte q.1 q.2.1⟩
theorem hook_countByte {P : Program} {B : Nat} {f : FuncId} (h : HookOK P B f (fun args h => (kx_countByte args).map fun v => (v, h))) : HookOK P B f (fun args h => (kOf (eCountByte f) args).map fun v => (v, h)) := by
  refine h.mono fun args v hk => ?_
  obtain ⟨p, q, h1, h2, E⟩ := kOf_inv rfl hk
  obtain ⟨x1, r1, rfl, k1, E⟩ := envR_cons E
  obtain ⟨x2, r2, rfl, k2, E⟩ := envR_cons E
  obtain rfl := envR_nil E
  obtain rfl := envR_pv (T := .str) rfl k1
  obtain rfl := envR_pv (T := .int .u8) rfl k2
  have h1 : F_countByte p.1 p.2.1 = some q := h1
  cases h1
  have h2 : some (AV.int .i64 (Lib.countByte p.1 p.2.1.toNat.toUInt8 : Int)) = some v := h2
  exact h2
theorem hook_indexByte {P : Program} {B : Nat} {f : FuncId} (h : HookOK P B f (fun args h => (kx_indexByte args).map fun v => (v, h))) : HookOK P B f (fun args h => (kOf (eIndexByte f) args).map fun v => (v, h)) := by
  refine h.mono fun args v hk => ?_
  obtain ⟨p, q, h1, h2, E⟩ := kOf_inv rfl hk
  obtain ⟨x1, r1, rfl, k1, E⟩ := envR_cons E
  obtain ⟨x2, r2, rfl, k2, E⟩ := envR_cons E
  obtain rfl := envR_nil E
  obtain rfl := envR_pv (T := .str) rfl k1
  obtain rfl := envR_pv (T := .int .u8) rfl k2
  have h1 : F_indexByte p.1 p.2.1 = some q := h1
  cases h1
  have h2 : some (AV.int .i64 (Lib.indexByte p.1 p.2.1.toNat.toUInt8)) = some v := h2
  exact h2

end
/-! V21 -/
section
set_option linter.unusedSimpArgs false
set_option linter.unusedVariables false
open Go Go.RowKit

/-- Such cells of the world are such a value. -/
def RW (w : World) : (t : Ty) → List Value → t.D → Prop
  | .int k, c, n => c = [.int k n]
  | .bool, c, b => c = [.bool b]
  | .str, c, s => c = [.string ⟨⟨s⟩⟩]
  | .lst e, c, l => ∃ x, c = [x] ∧ ((x = .slice none 0 0 ∧ l = []) ∨ ∃ (a : Addr) (cap : Nat), x = .slice (some a) l.length cap ∧ l.length ≤ cap ∧ ((cap = 0 ∧ l = []) ∨
      ∃ (C : Array Value) (ty : TypeId) (lo hi : Nat) (xs : List (List Value)), w.heap[a.block]? = some (.cells C ty (lo, hi)) ∧ a.spot = none ∧ a.off + cap * e.size ≤ C.size ∧ All2 (RW w e) xs l ∧ ∀ (i : Nat) (u : Value), xs.flatten[i]? = some u → C[a.off + i]? = some u))
  | .map _ _, _, _ => False
  | .nil, c, _ => c = []
  | .cons a b, c, v => ∃ c1 c2, c = c1 ++ c2 ∧ RW w a c1 v.1 ∧ RW w b c2 v.2

structure St (w : World) (h : AH) (φ : Nat → Loc) (g : FM) : Prop where
  ob : ∀ id o, h.get id = some o → o.owned = false ∧ ObjR h.ok φ (φ id) o w.heap[(φ id).b]?
  ok : g.ok h
structure StLe (h : AH) (φ : Nat → Loc) (g : FM) (h' : AH) (φ' : Nat → Loc) (g' : FM) : Prop where
  g : g.le g'
  k : ∀ id o, h.get id = some o → h'.get id = some o
  p : ∀ id, id < h.n → φ' id = φ id
  n : h.n ≤ h'.n

section
variable {w : World} {h h' : AH} {φ φ' : Nat → Loc} {g g' : FM}
theorem StLe.refl (h : AH) (φ : Nat → Loc) (g : FM) : StLe h φ g h φ g := ⟨FM.le.refl g, fun _ _ k => k, fun _ _ => rfl, Nat.le_refl _⟩
theorem StLe.trans {h'' : AH} {φ'' : Nat → Loc} {g'' : FM} (a : StLe h φ g h' φ' g') (b : StLe h' φ' g' h'' φ'' g'') : StLe h φ g h'' φ'' g'' :=
  ⟨a.g.trans b.g, fun id o k => b.k id o (a.k id o k), fun id k => (b.p id (Nat.lt_of_lt_of_le k a.n)).trans (a.p id k), Nat.le_trans a.n b.n⟩
theorem StLe.okm (a : StLe h φ g h' φ' g') : ∀ id, h.ok id → h'.ok id := fun id ⟨o, k⟩ => ⟨o, a.k id o k⟩
theorem StLe.eqm (a : StLe h φ g h' φ' g') : ∀ id, h.ok id → φ' id = φ id := fun id ⟨o, k⟩ => a.p id (AH.get_lt k)

theorem St.push (S : St w h φ g) {o : AO} {loc : Loc} (ho : o.owned = false) (hO : ObjR h.ok φ loc o w.heap[loc.b]?) {g' : FM} (hg : g.le g') (hok : g'.ok (h.push o)) :
    ∃ φ', St w (h.push o) φ' g' ∧ StLe h φ g (h.push o) φ' g' ∧ φ' h.n = loc := by
  let φ' : Nat → Loc := fun id => if id = h.n then loc else φ id
  have hn : φ' h.n = loc := if_pos rfl
  have hp : ∀ id, id < h.n → φ' id = φ id := fun id k => if_neg (by omega)
  have hk : ∀ id q, h.get id = some q → (h.push o).get id = some q := fun id q k => by rw [AH.get_push_ne (by have := AH.get_lt k; omega)]; exact k
  have okm : ∀ id, h.ok id → (h.push o).ok id := fun id ⟨q, k⟩ => ⟨q, hk id q k⟩
  have eqm : ∀ id, h.ok id → φ' id = φ id := fun id ⟨q, k⟩ => hp id (AH.get_lt k)
  refine ⟨φ', ⟨fun id q k => ?_, hok⟩, ⟨hg, hk, hp, by rw [AH.push_n]; omega⟩, hn⟩
  by_cases he : id = h.n
  · subst he
    rw [AH.get_push_new] at k
    cases k
    rw [hn]
    exact ⟨ho, hO.mono okm eqm⟩
  · rw [AH.get_push_ne he] at k
    have := S.ob id q k
    rw [hp id (AH.get_lt k)]
    exact ⟨this.1, this.2.mono okm eqm⟩

theorem placeL {e : Ty} (ih : ∀ {h : AH} {φ : Nat → Loc} {g : FM} {cs : List Value} {v : e.D}, St w h φ g → RW w e cs v → ∃ h' φ' g' c, St w h' φ' g' ∧ StLe h φ g h' φ' g' ∧ RepC g' e c v ∧ VRs h'.ok φ' c cs) :
    ∀ {xs : List (List Value)} {l : List e.D} {h : AH} {φ : Nat → Loc} {g : FM}, St w h φ g → All2 (RW w e) xs l → ∃ h' φ' g' ys, St w h' φ' g' ∧ StLe h φ g h' φ' g' ∧ All2 (RepC g' e) ys l ∧ VRs h'.ok φ' ys.flatten xs.flatten
  | [], [], h, φ, g, S, _ => ⟨h, φ, g, [], S, StLe.refl _ _ _, trivial, VRs.nil _ _⟩
  | x :: xs, v :: l, h, φ, g, S, a => by
    obtain ⟨h1, φ1, g1, c, S1, L1, r1, k1⟩ := ih S a.1
    obtain ⟨h2, φ2, g2, ys, S2, L2, r2, k2⟩ := placeL ih S1 a.2
    refine ⟨h2, φ2, g2, c :: ys, S2, L1.trans L2, ⟨r1.mono L2.g, r2⟩, ?_⟩
    rw [List.flatten_cons, List.flatten_cons]
    exact (k1.mono L2.okm L2.eqm).append k2
  | [], _ :: _, _, _, _, _, a => by first | cases a | exact a.elim
  | _ :: _, [], _, _, _, _, a => by first | cases a | exact a.elim

theorem RW.place : ∀ {t : Ty} {h : AH} {φ : Nat → Loc} {g : FM} {cs : List Value} {v : t.D}, St w h φ g → RW w t cs v → ∃ h' φ' g' c, St w h' φ' g' ∧ StLe h φ g h' φ' g' ∧ RepC g' t c v ∧ VRs h'.ok φ' c cs
  | .int k, h, φ, g, cs, v, S, r => by obtain rfl := r; exact ⟨h, φ, g, [.int k v], S, StLe.refl _ _ _, rfl, VRs.cons (.int _ _) (VRs.nil _ _)⟩
  | .bool, h, φ, g, cs, v, S, r => by obtain rfl := r; exact ⟨h, φ, g, [.bool v], S, StLe.refl _ _ _, rfl, VRs.cons (.bool _) (VRs.nil _ _)⟩
  | .str, h, φ, g, cs, v, S, r => by obtain rfl := r; exact ⟨h, φ, g, [.str v], S, StLe.refl _ _ _, rfl, VRs.cons (.str _) (VRs.nil _ _)⟩
  | .nil, h, φ, g, cs, v, S, r => by obtain rfl := r; exact ⟨h, φ, g, [], S, StLe.refl _ _ _, rfl, VRs.nil _ _⟩
  | .map _ _, h, φ, g, cs, v, S, r => r.elim
  | .cons a b, h, φ, g, cs, v, S, r => by
    obtain ⟨c1, c2, rfl, r1, r2⟩ := r
    obtain ⟨h1, φ1, g1, d1, S1, L1, q1, k1⟩ := RW.place S r1
    obtain ⟨h2, φ2, g2, d2, S2, L2, q2, k2⟩ := RW.place S1 r2
    exact ⟨h2, φ2, g2, d1 ++ d2, S2, L1.trans L2, ⟨d1, d2, rfl, q1.mono L2.g, q2⟩, (k1.mono L2.okm L2.eqm).append k2⟩
  | .lst e, h, φ, g, cs, v, S, r => by
    obtain ⟨x, rfl, ⟨rfl, rfl⟩ | ⟨a, cap, rfl, hl, ⟨rfl, hv⟩ | ⟨C, ty, lo, hi, xs, hC, hs, hle, hx, hc⟩⟩⟩ := r
    · exact ⟨h, φ, g, [nilS], S, StLe.refl _ _ _, ⟨nilS, rfl, .inl ⟨rfl, rfl⟩⟩, VRs.cons (.val _) (VRs.nil _ _)⟩
    · obtain ⟨φ1, S1, L1, e1⟩ := S.push (o := .dead) (loc := ⟨a.block, a.off, 0⟩) rfl trivial (FM.le.refl g) ⟨fun id c k => by
        obtain ⟨own, fz, ty, k2⟩ := S.ok.1 id c k
        exact ⟨own, fz, ty, by rw [AH.get_push_ne (by have := AH.get_lt k2; omega)]; exact k2⟩, fun id c k => by
        have k2 := S.ok.2 id c k
        rw [AH.get_push_ne (by have := AH.get_lt k2; omega)]; exact k2⟩
      have hv0 : v.length = 0 := by rw [hv]; rfl
      refine ⟨_, φ1, g, [.sl h.n 0 v.length e.size], S1, L1, ⟨_, rfl, .inr ⟨h.n, 0, rfl, .inl hv⟩⟩, VRs.cons (.sl h.n 0 v.length e.size a 0 ⟨_, AH.get_push_new _ _⟩ (by omega) (.inl rfl)) (VRs.nil _ _)⟩
    · obtain ⟨h1, φ1, g1, ys, S1, L1, q1, k1⟩ := placeL (e := e) (fun {h φ g cs v} S r => RW.place S r) S hx
      have hyl : ∀ y ∈ ys, y.length = e.size := fun y hy => by
        obtain ⟨i, hi, rfl⟩ := List.mem_iff_getElem.1 hy
        obtain ⟨b, _, hb⟩ := q1.at1 (List.getElem?_eq_getElem hi)
        exact hb.len
      have hfl : ys.flatten.length = v.length * e.size := by rw [flat_len hyl, q1.len]
      have hcap : v.length * e.size ≤ cap * e.size := Nat.mul_le_mul_right _ hl
      let g2 : FM := ⟨fun id => if id = h1.n then some ys.flatten else g1.c id, g1.v, g1.b⟩
      have hg2 : g1.le g2 := ⟨fun id c k => by
        obtain ⟨own, fz, ty, k2⟩ := S1.ok.1 id c k
        show (if id = h1.n then _ else _) = _
        rw [if_neg (by have := AH.get_lt k2; omega)]; exact k, fun _ _ k => k, rfl⟩
      have hok : g2.ok (h1.push (.cells ys.flatten false 0 none)) := ⟨fun id c k => by
        have k : (if id = h1.n then some ys.flatten else g1.c id) = some c := k
        split at k
        · rename_i he
          have h3 := Option.some.inj k
          subst h3
          rw [he]
          exact ⟨_, _, _, AH.get_push_new _ _⟩
        · obtain ⟨own, fz, ty, k2⟩ := S1.ok.1 id c k
          exact ⟨own, fz, ty, by rw [AH.get_push_ne (by have := AH.get_lt k2; omega)]; exact k2⟩, fun id c k => by
        have k2 := S1.ok.2 id c k
        rw [AH.get_push_ne (by have := AH.get_lt k2; omega)]; exact k2⟩
      obtain ⟨φ2, S2, L2, e2⟩ := S1.push (o := .cells ys.flatten false 0 none) (loc := ⟨a.block, a.off, C.size⟩) rfl ⟨C, ty, lo, hi, hC, rfl, by simp only; omega, fun i x hx' => by
          obtain ⟨u, hu, hr⟩ := k1.at hx'
          exact ⟨u, hc i u hu, hr⟩, fun hh => (by cases hh), fun t b hh => (by cases hh)⟩ hg2 hok
      refine ⟨_, φ2, g2, [.sl h1.n 0 v.length e.size], S2, L1.trans L2, ⟨_, rfl, .inr ⟨h1.n, 0, rfl, .inr ⟨ys.flatten, ys, if_pos rfl, by omega, ?_, q1.mono fun _ _ k => k.mono hg2⟩⟩⟩, VRs.cons (.sl h1.n 0 v.length e.size a cap ⟨_, AH.get_push_new _ _⟩ hl (.inr ⟨?_, ?_⟩)) (VRs.nil _ _)⟩
      · rw [List.drop_zero, ← hfl, List.take_length]
      · rw [e2]; obtain ⟨b, o, s⟩ := a; simp only at hs; subst hs; rfl
      · rw [e2]; simpa using hle
end

end
/-! V22 -/
section
set_option linter.unusedSimpArgs false
set_option linter.unusedVariables false
open Go Go.RowKit Go.ChangeShapes Go.WideShapes Go.Deep

/-- Sizes and places as the program says. -/
def chkT (P : Program) : Nat → TypeId → Ty → Bool
  | 0, _, _ => false
  | n + 1, t, T => P.cellsOf t == T.size && (match P.underlying t, T with
    | some (.int k), .int k' => decide (k = k')
    | some .bool, .bool => true
    | some .string, .str => true
    | some (.slice e), .lst E => decide (0 < E.size) && chkT P n e E
    | some (.struct fs), T => chkFs (chkT P n) fs.toList 0 T
    | _, _ => false)
where chkFs (f : TypeId → Ty → Bool) : List Field → Nat → Ty → Bool
  | [], _, .nil => true
  | fd :: fs, off, .cons A B => fd.offset == off && f fd.type A && chkFs f fs (off + A.size) B
  | _, _, _ => false

/-- Numbers are in their range. -/
def GoodT : (t : Ty) → t.D → Prop
  | .int k, n => (Lit.int k n).wf = true
  | .lst e, l => ∀ x ∈ l, GoodT e x
  | .cons a b, v => GoodT a v.1 ∧ GoodT b v.2
  | .bool, _ => True
  | .str, _ => True
  | .nil, _ => True
  | .map _ _, _ => True

theorem flat_sp {α : Type} {sz : Nat} (hp : 0 < sz) : ∀ {xs : List (List α)} {i : Nat} {x : α}, (∀ y ∈ xs, y.length = sz) → xs.flatten[i]? = some x → ∃ c, xs[i / sz]? = some c ∧ c[i % sz]? = some x
  | [], i, x, _, h => by simp at h
  | y :: ys, i, x, hl, h => by
    have hy := hl y (List.mem_cons_self ..)
    rw [List.flatten_cons] at h
    by_cases hi : i < sz
    · rw [List.getElem?_append_left (by omega)] at h
      exact ⟨y, by rw [Nat.div_eq_of_lt hi]; rfl, by rw [Nat.mod_eq_of_lt hi]; exact h⟩
    · rw [List.getElem?_append_right (by omega), hy] at h
      obtain ⟨c, h1, h2⟩ := flat_sp hp (fun z hz => hl z (List.mem_cons_of_mem _ hz)) h
      have e1 : i / sz = (i - sz) / sz + 1 := by
        have h3 := Nat.add_div_right (i - sz) hp
        rwa [show i - sz + sz = i by omega] at h3
      have e2 : i % sz = (i - sz) % sz := by
        have h3 := Nat.add_mod_right (i - sz) sz
        rwa [show i - sz + sz = i by omega] at h3
      exact ⟨c, by rw [e1]; simpa using h1, by rw [e2]; exact h2⟩

section
variable {H : Type} {enc : TypeId × Value → H} {P : Program} {w : World} {held : Bool}

theorem rows_RW {e : TypeId} {E : Ty} {sz : Nat} (hsz : E.size = sz) (hp : 0 < sz) {a : Addr} {len m : Nat} (hl : len ≤ m)
    (hx : ∀ i, i < m → ∃ cs' v, w.cells? 0 (a.add (i * sz)) sz = some cs' ∧ RW w E cs' v ∧ GoodT E v) :
    ∃ l : List E.D, l.length = len ∧ (∀ x ∈ l, GoodT E x) ∧ ((m = 0 ∧ l = []) ∨
      ∃ (C : Array Value) (ty : TypeId) (lo hi : Nat) (xs : List (List Value)), w.heap[a.block]? = some (.cells C ty (lo, hi)) ∧ a.spot = none ∧ a.off + m * E.size ≤ C.size ∧ All2 (RW w E) xs l ∧ ∀ (i : Nat) (u : Value), xs.flatten[i]? = some u → C[a.off + i]? = some u) := by
  subst hsz
  haveI : Inhabited (List Value × E.D) := ⟨([], E.dflt)⟩
  obtain ⟨X, hX⟩ := choose_lt (α := List Value × E.D) (p := fun i x => w.cells? 0 (a.add (i * E.size)) E.size = some x.1 ∧ RW w E x.1 x.2 ∧ GoodT E x.2) (n := m) (fun i hi => by
    obtain ⟨cs', v, h1, h2, h3⟩ := hx i hi
    exact ⟨(cs', v), h1, h2, h3⟩)
  refine ⟨(List.range len).map fun i => (X i).2, by simp, fun x hx => ?_, ?_⟩
  · obtain ⟨i, hi, rfl⟩ := List.mem_map.1 hx
    exact (hX i (by have := List.mem_range.1 hi; omega)).2.2
  by_cases hc : m = 0
  · left
    have : len = 0 := by omega
    subst this
    exact ⟨hc, rfl⟩
  right
  have cellAt : ∀ i j, i < m → j < E.size → w.cell? (a.add (i * E.size + j)) = (X i).1[j]? ∧ (X i).1.length = E.size := fun i j hi hj => by
    obtain ⟨h1, _⟩ := hX i hi
    obtain ⟨_, hlen, hcell⟩ := World.cells?_some h1
    exact ⟨by rw [← hcell j hj, add_add], hlen⟩
  obtain ⟨c2, c3⟩ := cellAt 0 0 (by omega) hp
  have hsome : ∃ q, w.cell? a = some q := by
    rw [List.getElem?_eq_getElem (by omega)] at c2
    refine ⟨_, (Eq.trans ?_ c2)⟩
    simp [Addr.add]
  obtain ⟨q, hq⟩ := hsome
  unfold World.cell? at hq
  split at hq
  rotate_left
  · cases hq
  rename_i C e' fz hC
  obtain ⟨lo, hi⟩ := fz
  split at hq
  · cases hq
  rename_i hspot
  have hspot' : a.spot = none := by
    cases hs : a.spot with
    | none => rfl
    | some k => rw [hs] at hspot; exact absurd rfl hspot
  have hadd : ∀ k, w.cell? (a.add k) = C[a.off + k]? := fun k => by
    unfold Addr.add
    split
    · rename_i h0; subst h0
      unfold World.cell?
      rw [hC]
      simp [hspot']
    · unfold World.cell?
      simp only
      rw [hC]
      simp
  have hmz : (m - 1) * E.size + E.size = m * E.size := by
    have : m - 1 + 1 = m := by omega
    rw [← Nat.succ_mul, Nat.succ_eq_add_one, this]
  refine ⟨C, e', lo, hi, (List.range len).map fun i => (X i).1, hC, hspot', ?_, ?_, fun i u hu => ?_⟩
  · obtain ⟨d2, d3⟩ := cellAt (m - 1) (E.size - 1) (by omega) (by omega)
    rw [hadd, List.getElem?_eq_getElem (by omega)] at d2
    have := (Array.getElem?_eq_some_iff.1 d2).1
    omega
  · have : ∀ ks : List Nat, (∀ k ∈ ks, k < m) → All2 (RW w E) (ks.map fun i => (X i).1) (ks.map fun i => (X i).2) := by
      intro ks
      induction ks with
      | nil => intro _; trivial
      | cons k ks ih => intro hk; exact ⟨(hX k (hk k (List.mem_cons_self ..))).2.1, ih fun j hj => hk j (List.mem_cons_of_mem _ hj)⟩
    exact this _ fun k hk => by have := List.mem_range.1 hk; omega
  · obtain ⟨c, k1, k2⟩ := flat_sp hp (fun y hy => by
      obtain ⟨j, hj, rfl⟩ := List.mem_map.1 hy
      exact (cellAt j 0 (by have := List.mem_range.1 hj; omega) hp).2) hu
    have hr : i % E.size < E.size := Nat.mod_lt _ hp
    have hql : i / E.size < len := by
      rcases Nat.lt_or_ge (i / E.size) len with h' | h'
      · exact h'
      · rw [List.getElem?_eq_none (by simpa using h')] at k1; cases k1
    rw [List.getElem?_map, List.getElem?_range hql] at k1
    simp only [Option.map_some, Option.some.injEq] at k1
    subst k1
    have hcj := (cellAt (i / E.size) (i % E.size) (by omega) hr).1
    rw [hadd, Nat.mul_comm, Nat.div_add_mod, k2] at hcj
    exact hcj

theorem trod_RW : ∀ (n : Nat) {t : TypeId} {T : Ty} {fuel : Nat} {cs : List Value} {y : DataW H × List MemPlace}, chkT P n t T = true → DataW.trod enc P w 0 (fun _ => true) held fuel t cs = some y → cs.length = T.size → ∃ v : T.D, RW w T cs v ∧ GoodT T v
  | 0, _, _, _, _, _, hc, _, _ => by cases hc
  | n + 1, t, T, fuel, cs, y, hc, ht, hl => by
    simp only [chkT, Bool.and_eq_true, beq_iff_eq] at hc
    obtain ⟨hsz, hc⟩ := hc
    split at hc
    · rename_i k k' hu
      have hk : k = k' := of_decide_eq_true hc
      subst hk
      obtain ⟨c, r, rfl, hr⟩ := uncons hl
      obtain rfl := unnil hr
      obtain ⟨z, rfl, hz⟩ := leaf_int hu ht
      exact ⟨z, rfl, hz⟩
    · rename_i hu
      obtain ⟨c, r, rfl, hr⟩ := uncons hl
      obtain rfl := unnil hr
      obtain ⟨z, rfl⟩ := leaf_bool hu ht
      exact ⟨z, rfl, trivial⟩
    · rename_i hu
      obtain ⟨c, r, rfl, hr⟩ := uncons hl
      obtain rfl := unnil hr
      obtain ⟨z, rfl, _⟩ := leaf_str hu ht
      exact ⟨z, rfl, trivial⟩
    · rename_i e E hu
      obtain ⟨h0, hc⟩ := (Bool.and_eq_true _ _).mp hc
      have h0 := of_decide_eq_true h0
      have hse : P.cellsOf e = E.size := by
        cases n with
        | zero => cases hc
        | succ n => simp only [chkT, Bool.and_eq_true, beq_iff_eq] at hc; exact hc.1
      rcases open_slice hu ht with ⟨rfl, _⟩ | ⟨a, len, cap, m, n', D, Pl, rfl, hb, hlc, hm, hmm, _, hx⟩
      · exact ⟨[], ⟨_, rfl, .inl ⟨rfl, rfl⟩⟩, fun x hx => by cases hx⟩
      · simp only [if_true] at hmm
        subst hmm
        rw [hse] at hx
        obtain ⟨l, hl, hg, hh⟩ := rows_RW (w := w) (e := e) (E := E) rfl h0 hlc (fun i hi => by
          obtain ⟨cs', h1, h2⟩ := hx i hi
          obtain ⟨_, hlen, _⟩ := World.cells?_some h1
          obtain ⟨v, k1, k2⟩ := trod_RW n hc h2 hlen
          exact ⟨cs', v, h1, k1, k2⟩)
        subst hl
        exact ⟨l, ⟨_, rfl, .inr ⟨a, m, rfl, hlc, hh⟩⟩, hg⟩
    · rename_i fs hu
      obtain ⟨xs, n1, _, _, hl1, hxl, hfs⟩ := DataW.trod_struct hu ht
      have key : ∀ (l : List Field) (off : Nat) (B : Ty), chkT.chkFs (chkT P n) l off B = true → (∀ f ∈ l, ∃ y, DataW.trod enc P w 0 (fun _ => true) held n1 f.type ((cs.drop f.offset).take (P.cellsOf f.type)) = some y) → (cs.drop off).length = B.size → ∃ v : B.D, RW w B (cs.drop off) v ∧ GoodT B v := by
        intro l
        induction l with
        | nil =>
          intro off B hB _ hlen
          cases B <;> first | cases hB | skip
          exact ⟨(), List.eq_nil_of_length_eq_zero hlen, trivial⟩
        | cons fd l ih =>
          intro off B hB hy hlen
          cases B <;> first | cases hB | skip
          rename_i A B
          simp only [chkT.chkFs, Bool.and_eq_true, beq_iff_eq] at hB
          obtain ⟨⟨ho, hA⟩, hB⟩ := hB
          subst ho
          obtain ⟨y1, hy1⟩ := hy fd (List.mem_cons_self ..)
          have hsA : P.cellsOf fd.type = A.size := by
            cases n with
            | zero => cases hA
            | succ n => simp only [chkT, Bool.and_eq_true, beq_iff_eq] at hA; exact hA.1
          rw [hsA] at hy1
          have hlen : (cs.drop fd.offset).length = A.size + B.size := hlen
          obtain ⟨v1, r1, g1⟩ := trod_RW n hA hy1 (by rw [List.length_take]; omega)
          obtain ⟨v2, r2, g2⟩ := ih (fd.offset + A.size) B hB (fun f hf => hy f (List.mem_cons_of_mem _ hf)) (by rw [← List.drop_drop, List.length_drop]; omega)
          exact ⟨(v1, v2), ⟨_, _, by rw [← List.drop_drop]; exact (List.take_append_drop _ _).symm, r1, r2⟩, g1, g2⟩
      have := key fs.toList 0 _ hc (fun f hf => by
        obtain ⟨i, hi, rfl⟩ := List.mem_iff_getElem.1 hf
        have hi' : i < fs.size := by simpa using hi
        have h2 := hfs i fs[i] (Array.getElem?_eq_getElem hi')
        rw [List.getElem?_eq_getElem (by omega)] at h2
        exact ⟨_, by simpa using h2⟩) (by rw [List.drop_zero]; exact hl)
      rw [List.drop_zero] at this
      exact this
    · cases hc
end

end
/-! V23 -/
section
set_option linter.unusedSimpArgs false
set_option linter.unusedVariables false
open Go Go.RowKit Go.ChangeShapes Go.WideShapes Go.Deep
open Go.ChangeMaps (open_string)

/-- An argument. -/
structure ArgV (w : World) (T : Ty) (v : Value) (x : T.D) : Prop where
  r : RW w T v.cells.toList x
  a : T.ag = true → ∃ cl : List Value, v = .agg cl.toArray
  o : T.ag = false → v.cells.toList = [v]

section
variable {H : Type} {enc : TypeId × Value → H} {P : Program} {w : World} {held : Bool}
theorem chkFs_ag {f : TypeId → Ty → Bool} : ∀ {l : List Field} {off : Nat} {T : Ty}, chkT.chkFs f l off T = true → T.ag = true
  | [], _, .nil, _ => rfl
  | _ :: _, _, .cons _ _, _ => rfl
  | [], _, .cons _ _, h => by cases h
  | [], _, .int _, h => by cases h
  | [], _, .bool, h => by cases h
  | [], _, .str, h => by cases h
  | [], _, .lst _, h => by cases h
  | [], _, .map _ _, h => by cases h
  | _ :: _, _, .nil, h => by cases h
  | _ :: _, _, .int _, h => by cases h
  | _ :: _, _, .bool, h => by cases h
  | _ :: _, _, .str, h => by cases h
  | _ :: _, _, .lst _, h => by cases h
  | _ :: _, _, .map _ _, h => by cases h
theorem open_arg (n : Nat) {r : Reach} {b0 : Nat} {t : TypeId} {T : Ty} {v : Value} {d : DataW H} {ps : List MemPlace} (hc : chkT P n t T = true) (hval : Value.okWide P w r b0 t v) (hd : DataW.Trod enc P w 0 (fun _ => true) held t v d ps) : ∃ x : T.D, ArgV w T v x ∧ GoodT T x := by
  have hc0 := hc
  cases n with
  | zero => cases hc
  | succ n =>
    simp only [chkT, Bool.and_eq_true, beq_iff_eq] at hc
    obtain ⟨hsz, hc⟩ := hc
    split at hc
    · rename_i k k' hu
      have hk : k = k' := of_decide_eq_true hc
      subst hk
      obtain ⟨z, rfl, _, _, hz⟩ := open_int hu hval hd
      exact ⟨z, ⟨rfl, fun h => (by cases h), fun _ => rfl⟩, hz⟩
    · rename_i hu
      obtain ⟨z, rfl, _⟩ := open_bool hu hval hd
      exact ⟨z, ⟨rfl, fun h => (by cases h), fun _ => rfl⟩, trivial⟩
    · rename_i hu
      obtain ⟨z, rfl, _⟩ := open_string hu hval hd
      exact ⟨z.data.toList, ⟨rfl, fun h => (by cases h), fun _ => rfl⟩, trivial⟩
    · rename_i e E hu
      obtain ⟨a, len, cap, rfl⟩ := okWide_slice hu hval
      obtain ⟨fuel, hf⟩ := hd
      obtain ⟨x, h1, h2⟩ := trod_RW (n + 1) hc0 hf rfl
      exact ⟨x, ⟨h1, fun h => (by cases h), fun _ => rfl⟩, h2⟩
    · rename_i fs hu
      have hd0 := hd
      obtain ⟨cl, xs, n1, rfl, hl, _⟩ := open_structK hu hval hd
      obtain ⟨fuel, hf⟩ := hd0
      have hcl : ((Value.agg cl.toArray).cells.toList) = cl := by simp [Value.cells]
      rw [hcl] at hf
      obtain ⟨x, h1, h2⟩ := trod_RW (n + 1) hc0 hf (by rw [hl, hsz])
      exact ⟨x, ⟨by rw [hcl]; exact h1, fun _ => ⟨cl, rfl⟩, fun h => (by rw [chkFs_ag hc] at h; cases h)⟩, h2⟩
    · cases hc
theorem ArgV.place {h : AH} {φ : Nat → Loc} {g : FM} {T : Ty} {v : Value} {x : T.D} (S : St w h φ g) (A : ArgV w T v x) : ∃ h' φ' g' a, St w h' φ' g' ∧ StLe h φ g h' φ' g' ∧ RepV g' T a x ∧ VR h'.ok φ' a v := by
  obtain ⟨h', φ', g', c, S', L, r, k⟩ := A.r.place S
  cases ht : T.ag with
  | true =>
    obtain ⟨cl, rfl⟩ := A.a ht
    have hcl : ((Value.agg cl.toArray).cells.toList) = cl := by simp [Value.cells]
    rw [hcl] at k
    exact ⟨h', φ', g', .agg c, S', L, (RepV.ofC r).1 ht, VR.aggOf k⟩
  | false =>
    obtain ⟨a, rfl, hr⟩ := (RepV.ofC r).2 ht
    rw [A.o ht] at k
    exact ⟨h', φ', g', a, S', L, hr, k.head⟩

/-- All arguments. -/
def ArgsV (w : World) : (ts : List SH) → List Value → (tysOf ts (otysOf [] .nil)).D → Prop
  | [], vs, _ => vs = []
  | .pv T :: ts, v :: vs, p => ArgV w T v p.1 ∧ ArgsV w ts vs p.2
  | _, _, _ => False
theorem ArgsV.place : ∀ {ts : List SH} {vs : List Value} {p : (tysOf ts (otysOf [] .nil)).D} {h : AH} {φ : Nat → Loc} {g : FM}, St w h φ g → ArgsV w ts vs p → ∃ h' φ' g' avs, St w h' φ' g' ∧ StLe h φ g h' φ' g' ∧ EnvR g' [] (unpL ts p).1 avs ∧ VRs h'.ok φ' avs vs
  | [], vs, p, h, φ, g, S, A => by obtain rfl := A; exact ⟨h, φ, g, [], S, StLe.refl _ _ _, EnvR.none, VRs.nil _ _⟩
  | .pv T :: ts, v :: vs, p, h, φ, g, S, A => by
    obtain ⟨A1, A2⟩ := A
    obtain ⟨h1, φ1, g1, a, S1, L1, r1, k1⟩ := A1.place S
    obtain ⟨h2, φ2, g2, avs, S2, L2, E2, k2⟩ := ArgsV.place (p := p.2) S1 A2
    exact ⟨h2, φ2, g2, a :: avs, S2, L1.trans L2, EnvR.one (SVR.pv (r1.mono L2.g)) E2, VRs.cons (k1.mono L2.okm L2.eqm) k2⟩
  | .pv _ :: _, [], _, _, _, _, _, A => A.elim
  | .dead :: _, _, _, _, _, _, _, A => by cases A
  | .un :: _, _, _, _, _, _, _, A => by cases A
  | .con _ :: _, _, _, _, _, _, _, A => by cases A
  | .kb _ :: _, _, _, _, _, _, _, A => by cases A
  | .ptr _ _ :: _, _, _, _, _, _, _, A => by cases A
  | .row _ :: _, _, _, _, _, _, _, A => by cases A
  | .view _ :: _, _, _, _, _, _, _, A => by cases A
  | .ept _ _ :: _, _, _, _, _, _, _, A => by cases A
  | .fpt _ _ :: _, _, _, _, _, _, _, A => by cases A
  | .mp _ :: _, _, _, _, _, _, _, A => by cases A
  | .fn _ _ _ :: _, _, _, _, _, _, _, A => by cases A
  | .ifc _ _ :: _, _, _, _, _, _, _, A => by cases A
  | .tup _ :: _, _, _, _, _, _, _, A => by cases A
  | .agg _ :: _, _, _, _, _, _, _, A => by cases A
  | .nl :: _, _, _, _, _, _, _, A => by cases A
  | .cn _ _ :: _, _, _, _, _, _, _, A => by cases A
end

end
/-! V24 -/
section
set_option linter.unusedSimpArgs false
set_option linter.unusedVariables false
open Go Go.RowKit

def gMof (hg : AH) : FM := gM fun id => match hg.get id with
  | some (.gvar _ c) => some c
  | _ => none

theorem law_args {P : Program} {gl : List GVar} {W : Aw} {K : PureK} {N : List FuncId} {es0 es : List VEnt} (C : Ch P gl W K N es0 es) {f : FuncId} {ts : List SH} {F : (Sh.mk ts []).D → Option (AltD [⟨[.pv .bool], []⟩])}
    (he : (⟨f, ⟨ts, []⟩, [⟨[.pv .bool], []⟩], F⟩ : VEnt) ∈ es) {p : (Sh.mk ts []).D} (hF : F p = some (true, ())) {w : World} {vs : List Value} (hg : AH)
    (hgl : ∀ x ∈ gl, x.t.flat = true ∧ hg.get x.g = some (.gvar x.g (x.l.map (encC x.t)).flatten)) (hgh : ∀ id o, hg.get id = some o → ∃ c, o = .gvar id c ∧ GIn w id c) (A : ArgsV w ts vs p)
    (hm : P.follows .mixedOrders = true) (hN : P.funcs.all (fun fn => !(fn.name == "runtime.NumGoroutine")) = true) {fn : Func} {c : Code} (hf : P.funcs[f]? = some fn) (hb : fn.body = some c) (hn : (fn.name == "runtime.NumGoroutine") = false) :
    Calls P f vs.toArray w fun e w' => e = .returned (.bool true) ∧ Below w.heap.size w w' := by
  have S0 : St w hg (fun id => ⟨id, 0, 0⟩) (gMof hg) := by
    refine ⟨fun id o ho => ?_, ⟨fun id c hc => (by cases hc), fun id c hc => ?_⟩⟩
    · obtain ⟨c, rfl, G⟩ := hgh id o ho
      exact ⟨rfl, G.obj _ _ rfl⟩
    · have hc : (match hg.get id with | some (.gvar _ c) => some c | _ => none) = some c := hc
      split at hc
      · rename_i j c' hj
        cases hc
        obtain ⟨c2, e2, _⟩ := hgh id _ hj
        cases e2
        exact hj
      · cases hc
  have hG : GOK (gMof hg) gl := fun x hx => by
    obtain ⟨h1, h2⟩ := hgl x hx
    refine ⟨x.l.map (encC x.t), ?_, all2_ofEnc h1 _⟩
    show (match hg.get x.g with | some (.gvar _ c) => some c | _ => none) = _
    rw [h2]
  obtain ⟨h', φ', g', avs, S', L, E, k⟩ := A.place S0
  obtain ⟨n, h1, e⟩ := law_V C he hF (hG.mono L.g) S'.ok (fun id c hc => by rw [L.g.b]; trivial) E
  exact law_of_run (φ := φ') (args := avs) (args' := vs) (hooksW_ok (C.wok _) (C.ok _)) (drawnOf_ok hm (tabW_ok (C.wok _) (C.ok _)) tabW_mono) hN e
    ⟨fun id o hg => (S'.ob id o hg).2, fun id o hg hw => (by rw [(S'.ob id o hg).1] at hw; cases hw), fun i j o p hi hj hw _ _ => (by rw [(S'.ob i o hi).1] at hw; cases hw), Nat.le_refl _⟩
    (fun id o hg => (S'.ob id o hg).1) k hf hb hn

end
/-! PB -/
section
set_option linter.unusedSimpArgs false
set_option linter.unusedVariables false
open Go Go.RowKit

theorem NF_eq : NF = 1000000 := rfl
theorem iter_inl {σ ρ : Type} {step : σ → Option (σ ⊕ ρ)} {n : Nat} {s s' : σ} (h : step s = some (.inl s')) : iter step (n + 1) s = iter step n s' := by rw [iter, h]
theorem iter_inr {σ ρ : Type} {step : σ → Option (σ ⊕ ρ)} {n : Nat} {s : σ} {r : ρ} (h : step s = some (.inr r)) : iter step (n + 1) s = some r := by rw [iter, h]
/-- A loop, by what holds ahead of each round. -/
theorem iter_inv {σ ρ : Type} {step : σ → Option (σ ⊕ ρ)} (I : σ → Prop) (m : σ → Nat) (Q : ρ → Prop)
    (hs : ∀ s, I s → (∃ s', step s = some (.inl s') ∧ I s' ∧ m s' < m s) ∨ ∃ r, step s = some (.inr r) ∧ Q r) : ∀ (n : Nat) (s : σ), I s → m s < n → ∃ r, iter step n s = some r ∧ Q r := by
  intro n
  induction n with
  | zero => intro s _ h; omega
  | succ n ih =>
    intro s hi hm
    rcases hs s hi with ⟨s', h1, h2, h3⟩ | ⟨r, h1, h2⟩
    · rw [iter_inl h1]; exact ih s' h2 (by omega)
    · rw [iter_inr h1]; exact ⟨r, rfl, h2⟩

theorem some_ite {α : Type} {c : Prop} [Decidable c] {x y : Option α} (hx : ∃ a, x = some a) (hy : ∃ a, y = some a) : ∃ a, (if c then x else y) = some a := by
  split
  · exact hx
  · exact hy
theorem some_bind {α β : Type} {x : Option α} {f : α → Option β} (hx : ∃ a, x = some a) (hf : ∀ a, ∃ b, f a = some b) : ∃ b, x.bind f = some b := by
  obtain ⟨a, rfl⟩ := hx
  exact hf a
theorem some_sumK {α β γ : Type} {x : α ⊕ β} {f : α → Option γ} {g : β → Option γ} (hf : ∀ a, ∃ b, f a = some b) (hg : ∀ a, ∃ b, g a = some b) : ∃ b, sumK x f g = some b := by
  cases x with
  | inl a => exact hf a
  | inr b => exact hg b

theorem cat_eq (a b : List UInt8) (h : a.length + b.length ≤ 100000000) : cat a b = some (a ++ b) := by
  unfold cat; rw [if_pos (by unfold sizeCap; omega)]
/-- A loop that counts, by its states. -/
theorem iter_nat {σ ρ : Type} {step : σ → Option (σ ⊕ ρ)} (st : Nat → σ) {r : ρ} (N : Nat) (hend : step (st N) = some (.inr r)) : ∀ (d i n : Nat), i + d = N → (∀ j, i ≤ j → j < N → step (st j) = some (.inl (st (j + 1)))) → d < n → iter step n (st i) = some r := by
  intro d
  induction d with
  | zero =>
    intro i n hi hs hn
    obtain ⟨n, rfl⟩ : ∃ j, n = j + 1 := ⟨n - 1, by omega⟩
    obtain rfl : i = N := by omega
    exact iter_inr hend
  | succ d ih =>
    intro i n hi hs hn
    obtain ⟨n, rfl⟩ : ∃ j, n = j + 1 := ⟨n - 1, by omega⟩
    rw [iter_inl (hs i (Nat.le_refl _) (by omega))]
    exact ih (i + 1) n (by omega) (fun j h1 h2 => hs j (by omega) h2) (by omega)
/-- A loop over a list that gathers, by what it has gathered of each beginning. -/
theorem iter_pre {α σ ρ : Type} (l : List α) (G : List α → σ) {step : σ × Int → Option ((σ × Int) ⊕ ρ)} {r : ρ} (hl : l.length ≤ 900000)
    (hs : ∀ i (hi : i < l.length), step (G (l.take i), (i : Int)) = some (.inl (G (l.take i ++ [l[i]]), ((i + 1 : Nat) : Int)))) (he : step (G l, (l.length : Int)) = some (.inr r)) : iter step NF (G [], 0) = some r := by
  have := iter_nat (step := step) (fun i => (G (l.take i), (i : Int))) (r := r) l.length (by simpa using he) l.length 0 NF (by omega) (fun i _ hi => by
    rw [hs i hi, List.take_add_one, List.getElem?_eq_getElem hi]; rfl) (by rw [NF_eq]; omega)
  simpa using this
/-- A loop over a list that ends early where one is bad. -/
theorem iter_any {α : Type} (l : List α) (bad : α → Bool) {step : Int → Option (Int ⊕ (Unit ⊕ Unit))} (hl : l.length ≤ 900000)
    (hs : ∀ i (hi : i < l.length), step (i : Int) = some (if bad l[i] = true then .inr (.inr ()) else .inl ((i + 1 : Nat) : Int))) (he : step (l.length : Int) = some (.inr (.inl ()))) : iter step NF 0 = some (if l.any bad = true then .inr () else .inl ()) := by
  have key : ∀ (d i n : Nat), i + d = l.length → d < n → iter step n (i : Int) = some (if (l.drop i).any bad = true then .inr () else .inl ()) := by
    intro d
    induction d with
    | zero =>
      intro i n hi hn
      obtain ⟨n, rfl⟩ : ∃ j, n = j + 1 := ⟨n - 1, by omega⟩
      obtain rfl : i = l.length := by omega
      rw [List.drop_length]
      exact iter_inr he
    | succ d ih =>
      intro i n hi hn
      obtain ⟨n, rfl⟩ : ∃ j, n = j + 1 := ⟨n - 1, by omega⟩
      have hlt : i < l.length := by omega
      have h1 := hs i hlt
      rw [List.drop_eq_getElem_cons hlt, List.any_cons]
      by_cases hb : bad l[i] = true
      · rw [if_pos hb] at h1
        rw [iter_inr h1, hb]; rfl
      · rw [if_neg hb] at h1
        rw [iter_inl h1, ih (i + 1) n (by omega) (by omega)]
        simp only [show bad l[i] = false by simpa using hb, Bool.false_or]
  have := key l.length 0 NF (by omega) (by rw [NF_eq]; omega)
  simpa using this
theorem idx_of {α : Type} (l : List α) (i : Nat) (hi : i < l.length) : idxL l (i : Int) = some l[i] := by
  unfold idxL; rw [if_pos (by omega), Int.toNat_natCast, List.getElem?_eq_getElem hi]
theorem app_of {α : Type} (a b : List α) (h : a.length + b.length ≤ 100000000) : app a b = some (a ++ b) := by
  unfold app; rw [if_pos (by unfold capL; omega)]
theorem NF_add1 : NF = 999999 + 1 := by rw [NF_eq]

end
/-! VP -/
section
set_option linter.unusedSimpArgs false
set_option linter.unusedVariables false
open Go Go.RowKit

theorem vS {α β : Type} {x : α} {f : α → Option β} : (some x).bind f = f x := Eq.trans (Eq.refl _) (Eq.refl _)
theorem vT {α : Type} {a b : α} : cond true a b = a := Eq.trans (Eq.refl _) (Eq.refl _)
theorem vF {α : Type} {a b : α} : cond false a b = b := Eq.trans (Eq.refl _) (Eq.refl _)
/-- A loop, by its answer as a function of its state. -/
theorem iter_eq {σ ρ : Type} {step : σ → Option (σ ⊕ ρ)} (I : σ → Prop) (m : σ → Nat) (R : σ → ρ)
    (hs : ∀ s, I s → (∃ s', step s = some (.inl s') ∧ I s' ∧ m s' < m s ∧ R s' = R s) ∨ step s = some (.inr (R s))) : ∀ (n : Nat) (s : σ), I s → m s < n → iter step n s = some (R s) := by
  intro n
  induction n with
  | zero => intro s _ h; omega
  | succ n ih =>
    intro s hi hm
    rcases hs s hi with ⟨s', h1, h2, h3, h4⟩ | h1
    · rw [iter_inl h1, ih s' h2 (by omega), h4]
    · rw [iter_inr h1]
theorem w64 {x : Int} (h1 : -4611686018427387904 ≤ x) (h2 : x ≤ 4611686018427387904) : IntKind.i64.wrap x = x := wrap_i64 (by omega) (by omega)
theorem idxL_nat {α : Type} {l : List α} {i : Nat} (hi : i < l.length) : idxL l (i : Int) = some l[i] := idx_of l i hi
theorem idxS_nat {l : List UInt8} {i : Nat} (hi : i < l.length) : idxS l (i : Int) = some (l[i].toNat : Int) := by
  unfold idxS
  rw [if_pos (by omega), Int.toNat_natCast, List.getD_eq_getElem?_getD, List.getElem?_eq_getElem hi]; rfl
theorem subS_nat {l : List UInt8} {a b : Nat} (h1 : a ≤ b) (h2 : b ≤ l.length) : subS l (a : Int) (b : Int) = some ((l.take b).drop a) := by
  unfold subS; rw [if_pos (by omega)]; rfl
theorem subL_nat {α : Type} {l : List α} {a b : Nat} (h1 : a ≤ b) (h2 : b ≤ l.length) : subL l (a : Int) (b : Int) = some ((l.take b).drop a) := by
  unfold subL; rw [if_pos (by omega)]; rfl
theorem chkSub_nat {n a b : Nat} (h1 : a ≤ b) (h2 : b ≤ n) : chkSub (n : Int) (a : Int) (b : Int) = some () := by
  unfold chkSub; rw [if_pos (by omega)]
theorem byte_eq {b : UInt8} {n : Nat} (hn : n < 256) : ((b.toNat : Int) == (n : Int)) = (b == UInt8.ofNat n) := by
  have h2 : (UInt8.ofNat n).toNat = n := by rw [UInt8.toNat_ofNat', Nat.mod_eq_of_lt (by simpa using hn)]
  rw [Bool.eq_iff_iff]
  simp only [beq_iff_eq]
  constructor
  · intro h; apply UInt8.toNat_inj.1; rw [h2]; omega
  · rintro rfl; rw [h2]
theorem td {l : List UInt8} {a b : Nat} : (l.take b).drop a = (l.drop a).take (b - a) := by rw [List.drop_take]

/-! ### Orders -/
structure OrdC {α : Type} (c : α → α → Int) : Prop where
  val : ∀ a b, c a b = -1 ∨ c a b = 0 ∨ c a b = 1
  eq : ∀ a b, c a b = 0 ↔ a = b
  anti : ∀ a b, c b a = - c a b
  trans : ∀ a b d, c a b = -1 → c b d = -1 → c a d = -1
def lexC {α : Type} (c : α → α → Int) : List α → List α → Int
  | [], [] => 0
  | [], _ :: _ => -1
  | _ :: _, [] => 1
  | a :: x, b :: y => if c a b = 0 then lexC c x y else c a b
section
variable {α : Type} {c : α → α → Int}
theorem OrdC.refl (h : OrdC c) (a : α) : c a a = 0 := (h.eq a a).2 rfl
theorem lex_val (h : OrdC c) : ∀ x y, lexC c x y = -1 ∨ lexC c x y = 0 ∨ lexC c x y = 1
  | [], [] => .inr (.inl rfl)
  | [], _ :: _ => .inl rfl
  | _ :: _, [] => .inr (.inr rfl)
  | a :: x, b :: y => by unfold lexC; split; exact lex_val h x y; exact h.val a b
theorem lex_eq (h : OrdC c) : ∀ x y, lexC c x y = 0 ↔ x = y
  | [], [] => by simp [lexC]
  | [], _ :: _ => by simp [lexC]
  | _ :: _, [] => by simp [lexC]
  | a :: x, b :: y => by
    unfold lexC
    split
    · rename_i h0
      rw [lex_eq h x y, (h.eq a b).1 h0]; simp
    · rename_i h0
      constructor
      · intro h1; exact absurd h1 h0
      · intro h1; cases h1; exact absurd (h.refl a) h0
theorem lex_anti (h : OrdC c) : ∀ x y, lexC c y x = - lexC c x y
  | [], [] => rfl
  | [], _ :: _ => rfl
  | _ :: _, [] => rfl
  | a :: x, b :: y => by
    have h1 := h.anti a b
    have h2 := lex_anti h x y
    unfold lexC
    split <;> split <;> omega
theorem lex_trans (h : OrdC c) : ∀ x y z, lexC c x y = -1 → lexC c y z = -1 → lexC c x z = -1
  | [], [], _, h1, _ => by cases h1
  | _ :: _, [], _, h1, _ => by cases h1
  | _, _ :: _, [], _, h2 => by cases h2
  | [], _ :: _, _ :: _, _, _ => rfl
  | a :: x, b :: y, d :: z, h1, h2 => by
    unfold lexC at *
    have va := h.val a b
    have vb := h.val b d
    by_cases e1 : c a b = 0
    · have := (h.eq a b).1 e1
      subst this
      rw [if_pos e1] at h1
      by_cases e2 : c a d = 0
      · rw [if_pos e2] at h2 ⊢
        exact lex_trans h x y z h1 h2
      · rw [if_neg e2] at h2 ⊢; exact h2
    · rw [if_neg e1] at h1
      by_cases e2 : c b d = 0
      · have := (h.eq b d).1 e2
        subst this
        rw [if_neg e1]; exact h1
      · rw [if_neg e2] at h2
        have := h.trans a b d h1 h2
        rw [if_neg (by omega)]; exact this
theorem OrdC.lex (h : OrdC c) : OrdC (lexC c) := ⟨lex_val h, lex_eq h, lex_anti h, lex_trans h⟩
end
def c8 (a b : UInt8) : Int := if a < b then -1 else if b < a then 1 else 0
theorem c8_ord : OrdC c8 := by
  have lt : ∀ a b : UInt8, a < b ↔ a.toNat < b.toNat := fun a b => UInt8.lt_iff_toNat_lt
  have eq : ∀ a b : UInt8, a = b ↔ a.toNat = b.toNat := fun a b => UInt8.toNat_inj.symm
  refine ⟨fun a b => ?_, fun a b => ?_, fun a b => ?_, fun a b d h1 h2 => ?_⟩
  · unfold c8; split
    · exact .inl rfl
    · split
      · exact .inr (.inr rfl)
      · exact .inr (.inl rfl)
  · unfold c8; rw [eq]; simp only [lt]
    split
    · simp; omega
    · split
      · simp; omega
      · simp; omega
  · unfold c8; simp only [lt]
    split <;> split <;> first | rfl | omega | (split <;> first | rfl | omega)
  · unfold c8 at *; simp only [lt] at *
    have h3 : a.toNat < b.toNat := by
      split at h1
      · assumption
      · split at h1 <;> cases h1
    have h4 : b.toNat < d.toNat := by
      split at h2
      · assumption
      · split at h2 <;> cases h2
    rw [if_pos (by omega)]
/-- Texts, byte by byte. -/
def cB : List UInt8 → List UInt8 → Int := lexC c8
theorem cB_ord : OrdC cB := c8_ord.lex
theorem bless_eq : ∀ (x y : List UInt8), Op.bytesLess x y = decide (cB x y = -1)
  | _, [] => by
    rename_i x
    cases x <;> rfl
  | [], _ :: _ => rfl
  | a :: x, b :: y => by
    have ih := bless_eq x y
    unfold Op.bytesLess
    rw [ih]
    show _ = decide ((if c8 a b = 0 then cB x y else c8 a b) = -1)
    by_cases h1 : a < b
    · have : c8 a b = -1 := by unfold c8; rw [if_pos h1]
      simp [h1, this]
    · by_cases h2 : a = b
      · subst h2
        rw [if_pos (c8_ord.refl a)]
        simp [h1]
      · have h3 : ¬ c8 a b = 0 := fun h => h2 ((c8_ord.eq a b).1 h)
        have h4 : c8 a b ≠ -1 := by
          unfold c8; rw [if_neg h1]; split <;> decide
        rw [if_neg h3]
        simp [h1, h2, h4]

end
/-! VQ -/
section
set_option linter.unusedSimpArgs false
set_option linter.unusedVariables false
open Go Go.RowKit
section
variable {α : Type} {c : α → α → Int}
/-- In order, each once. -/
def AscC (c : α → α → Int) (l : List α) : Prop := l.Pairwise fun a b => c a b = -1
theorem OrdC.ne (h : OrdC c) {a b : α} (e : c a b = -1) : a ≠ b := fun x => by
  have := (h.eq a b).2 x; omega
theorem OrdC.asym (h : OrdC c) {a b : α} (e : c a b = -1) : ¬ c b a = -1 := by have := h.anti a b; omega
/-- Two lists in order, each member once, of the same members are the same. -/
theorem asc_ext (h : OrdC c) : ∀ {x y : List α}, AscC c x → AscC c y → (∀ a, a ∈ x ↔ a ∈ y) → x = y
  | [], [], _, _, _ => rfl
  | [], b :: y, _, _, e => by have := (e b).2 (List.mem_cons_self); cases this
  | a :: x, [], _, _, e => by have := (e a).1 (List.mem_cons_self); cases this
  | a :: x, b :: y, hx, hy, e => by
    obtain ⟨hx1, hx2⟩ := List.pairwise_cons.1 hx
    obtain ⟨hy1, hy2⟩ := List.pairwise_cons.1 hy
    have hab : a = b := by
      rcases List.mem_cons.1 ((e a).1 List.mem_cons_self) with h1 | h1
      · exact h1
      rcases List.mem_cons.1 ((e b).2 List.mem_cons_self) with h2 | h2
      · exact h2.symm
      exact absurd (hx1 b h2) (h.asym (hy1 a h1))
    subst hab
    congr 1
    refine asc_ext h hx2 hy2 fun z => ⟨fun hz => ?_, fun hz => ?_⟩
    · rcases List.mem_cons.1 ((e z).1 (List.mem_cons_of_mem _ hz)) with h1 | h1
      · subst h1; exact absurd rfl (h.ne (hx1 z hz))
      · exact h1
    · rcases List.mem_cons.1 ((e z).2 (List.mem_cons_of_mem _ hz)) with h1 | h1
      · subst h1; exact absurd rfl (h.ne (hy1 z hz))
      · exact h1
/-- Into its place; what is alike stays ahead. -/
def insC (c : α → α → Int) (a : α) : List α → List α
  | [] => [a]
  | b :: l => if c b a < 0 then b :: insC c a l else a :: b :: l
def sortC (c : α → α → Int) : List α → List α
  | [] => []
  | a :: l => insC c a (sortC c l)
def SrtC (c : α → α → Int) (l : List α) : Prop := l.Pairwise fun a b => ¬ c b a < 0
theorem insC_perm (a : α) : ∀ l, (insC c a l).Perm (a :: l)
  | [] => List.Perm.refl _
  | b :: l => by
    unfold insC
    split
    · exact ((insC_perm a l).cons b).trans (List.Perm.swap a b l)
    · exact List.Perm.refl _
theorem sortC_perm : ∀ l : List α, (sortC c l).Perm l
  | [] => List.Perm.refl _
  | a :: l => (insC_perm a _).trans ((sortC_perm l).cons a)
theorem insC_srt (h : OrdC c) (a : α) : ∀ {l : List α}, SrtC c l → SrtC c (insC c a l)
  | [], _ => List.pairwise_singleton _ _
  | b :: l, hl => by
    obtain ⟨h1, h2⟩ := List.pairwise_cons.1 hl
    unfold insC
    split
    · rename_i hb
      refine List.pairwise_cons.2 ⟨fun x hx => ?_, insC_srt h a h2⟩
      rcases List.mem_cons.1 ((insC_perm a l).mem_iff.1 hx) with e | e
      · subst e
        have := h.anti b x; omega
      · exact h1 x e
    · rename_i hb
      refine List.pairwise_cons.2 ⟨fun x hx => ?_, hl⟩
      rcases List.mem_cons.1 hx with e | e
      · subst e; exact hb
      · intro hxa
        have h3 := h1 x e
        have va := h.val x a
        have vb := h.val b x
        have hxa : c x a = -1 := by omega
        have := h.anti b x
        have vc := h.val b a
        by_cases e0 : c b x = 0
        · have := (h.eq b x).1 e0; subst this; omega
        · have := h.trans b x a (by omega) hxa; omega
theorem sortC_srt (h : OrdC c) : ∀ l : List α, SrtC c (sortC c l)
  | [] => List.Pairwise.nil
  | a :: l => insC_srt h a (sortC_srt h l)
/-- Two sorted lists, one a permutation of the other. -/
theorem srt_ext (h : OrdC c) : ∀ {x y : List α}, SrtC c x → SrtC c y → x.Perm y → x = y
  | [], y, _, _, e => (List.nil_perm.1 e).symm
  | a :: x, [], _, _, e => (List.perm_nil.1 e)
  | a :: x, b :: y, hx, hy, e => by
    obtain ⟨hx1, hx2⟩ := List.pairwise_cons.1 hx
    obtain ⟨hy1, hy2⟩ := List.pairwise_cons.1 hy
    have hab : a = b := by
      rcases List.mem_cons.1 (e.mem_iff.1 List.mem_cons_self : a ∈ b :: y) with h1 | h1
      · exact h1
      rcases List.mem_cons.1 (e.mem_iff.2 List.mem_cons_self : b ∈ a :: x) with h2 | h2
      · exact h2.symm
      have h3 := hx1 b h2
      have h4 := hy1 a h1
      have := h.anti a b
      exact (h.eq a b).1 (by omega)
    subst hab
    rw [srt_ext h hx2 hy2 (List.perm_cons a |>.1 e)]
theorem sortC_mem {l : List α} {a : α} : a ∈ sortC c l ↔ a ∈ l := (sortC_perm l).mem_iff
theorem sortC_len (l : List α) : (sortC c l).length = l.length := (sortC_perm l).length_eq
theorem merge_sortC (h : OrdC c) (l : List α) : l.mergeSort (fun x y => !decide (c y x < 0)) = sortC c l := by
  have tr : ∀ a b d : α, (!decide (c b a < 0)) = true → (!decide (c d b < 0)) = true → (!decide (c d a < 0)) = true := fun a b d h1 h2 => by
    simp only [Bool.not_eq_true', decide_eq_false_iff_not] at *
    intro h3
    have v1 := h.val b a
    have v2 := h.val d b
    have v3 := h.val d a
    have a1 := h.anti a b
    have a2 := h.anti b d
    by_cases e1 : c b a = 0
    · have := (h.eq b a).1 e1; subst this; exact h2 h3
    · have e3 : c a b = -1 := by omega
      have := h.trans d a b (by omega) e3
      exact h2 (by omega)
  have tot : ∀ a b : α, ((!decide (c b a < 0)) || (!decide (c a b < 0))) = true := fun a b => by
    have := h.anti a b
    rw [Bool.or_eq_true]
    simp only [Bool.not_eq_true', decide_eq_false_iff_not]
    omega
  refine srt_ext h ?_ (sortC_srt h l) ((List.mergeSort_perm l _).trans (sortC_perm l).symm)
  have := List.pairwise_mergeSort tr tot l
  exact this.imp fun hab => by simpa using hab
/-- Each once, of those that stand side by side. -/
def cpt [DecidableEq α] (l : List α) : List α := l.foldl (fun a x => if a.getLast? = some x then a else a ++ [x]) []
variable [DecidableEq α]
theorem cpt_snoc (l : List α) (x : α) : cpt (l ++ [x]) = if (cpt l).getLast? = some x then cpt l else cpt l ++ [x] := by
  unfold cpt; rw [List.foldl_append]; rfl
theorem cpt_last (l : List α) : (cpt l).getLast? = l.getLast? := by
  rcases List.eq_nil_or_concat l with e | ⟨r, x, e⟩
  · subst e; rfl
  · subst e
    rw [List.concat_eq_append, cpt_snoc]
    split
    · rename_i h; rw [h]; simp
    · simp
theorem snoc_ind {β : Type} {P : List β → Prop} (h0 : P []) (h1 : ∀ l x, P l → P (l ++ [x])) (l : List β) : P l := by
  have key : ∀ r : List β, P r.reverse := fun r => by
    induction r with
    | nil => exact h0
    | cons a r ih => rw [List.reverse_cons]; exact h1 _ _ ih
  have := key l.reverse
  rwa [List.reverse_reverse] at this
theorem cpt_spec (h : OrdC c) : ∀ l : List α, SrtC c l → AscC c (cpt l) ∧ ∀ a, a ∈ cpt l ↔ a ∈ l := by
  refine snoc_ind (P := fun l => SrtC c l → AscC c (cpt l) ∧ ∀ a, a ∈ cpt l ↔ a ∈ l) (fun _ => ⟨List.Pairwise.nil, fun a => Iff.rfl⟩) fun l x ih hl => ?_
  · 
    have hl' := List.pairwise_append.1 hl
    obtain ⟨i1, i2⟩ := ih hl'.1
    rw [cpt_snoc]
    split
    · rename_i he
      refine ⟨i1, fun a => ?_⟩
      rw [i2, List.mem_append, List.mem_singleton]
      refine ⟨.inl, fun h1 => h1.elim id fun e => ?_⟩
      subst e
      rw [← i2]
      exact List.mem_of_getLast? he
    · rename_i he
      refine ⟨List.pairwise_append.2 ⟨i1, List.pairwise_singleton _ _, fun a ha b hb => ?_⟩, fun a => by rw [List.mem_append, List.mem_append, i2]⟩
      rw [List.mem_singleton] at hb
      subst hb
      have h1 := hl'.2.2 a ((i2 a).1 ha) b List.mem_cons_self
      have va := h.val a b
      have an := h.anti a b
      by_cases e0 : c a b = 0
      · exfalso
        have := (h.eq a b).1 e0
        subst this
        -- a lies in l, and a is at the end: what lies behind a is as great as a
        obtain ⟨y, hy⟩ : ∃ y, (cpt l).getLast? = some y := by
          cases hq : (cpt l).getLast? with
          | none => rw [List.getLast?_eq_none_iff] at hq; rw [hq] at ha; cases ha
          | some y => exact ⟨y, rfl⟩
        have hne : y ≠ a := fun e => he (by rw [hy, e])
        obtain ⟨s, hs⟩ := List.getLast?_eq_some_iff.1 hy
        have hyl : y ∈ l := (i2 y).1 (by rw [hs]; simp)
        have h2 := hl'.2.2 y hyl a List.mem_cons_self
        have h3 : c a y = -1 := by
          rw [hs] at i1 ha
          rcases List.mem_append.1 ha with h4 | h4
          · exact (List.pairwise_append.1 i1).2.2 a h4 y List.mem_cons_self
          · rw [List.mem_singleton] at h4; exact absurd h4.symm hne
        omega
      · omega
/-- All members, in order, each once. -/
def ascOf (c : α → α → Int) (l : List α) : List α := cpt (sortC c l)
theorem ascOf_asc (h : OrdC c) (l : List α) : AscC c (ascOf c l) := (cpt_spec h _ (sortC_srt h l)).1
theorem ascOf_mem (h : OrdC c) (l : List α) (a : α) : a ∈ ascOf c l ↔ a ∈ l := ((cpt_spec h _ (sortC_srt h l)).2 a).trans sortC_mem
theorem ascOf_eq (h : OrdC c) {l x : List α} (hx : AscC c x) (hm : ∀ a, a ∈ x ↔ a ∈ l) : x = ascOf c l := asc_ext h hx (ascOf_asc h l) fun a => (hm a).trans (ascOf_mem h l a).symm
end
section
variable {α : Type} {c : α → α → Int}
/-- Into a list in order, where it is not there yet. -/
theorem asc_split (h : OrdC c) {l : List α} (hl : AscC c l) (p : α) : ∃ k, k ≤ l.length ∧ (∀ i (hi : i < l.length), i < k → c l[i] p = -1) ∧ (∀ (hi : k < l.length), ¬ c l[k] p = -1) ∧ (p ∈ l ↔ l[k]? = some p) ∧ (p ∉ l → AscC c (l.take k ++ p :: l.drop k)) := by
  induction l with
  | nil => exact ⟨0, Nat.le_refl _, fun i hi => absurd hi (Nat.not_lt_zero _), fun hi => absurd hi (Nat.not_lt_zero _), by simp, fun _ => List.pairwise_singleton _ _⟩
  | cons b l ih =>
    obtain ⟨h1, h2⟩ := List.pairwise_cons.1 hl
    by_cases hb : c b p = -1
    · obtain ⟨k, k1, k2, k3, k4, k5⟩ := ih h2
      refine ⟨k + 1, by simp; omega, fun i hi hk => ?_, fun hi => ?_, ?_, fun hp => ?_⟩
      · cases i with
        | zero => exact hb
        | succ i => exact k2 i (by simpa using hi) (by omega)
      · exact k3 (by simpa using hi)
      · rw [List.mem_cons, List.getElem?_cons_succ, k4]
        refine ⟨fun e => e.elim (fun e => ?_) id, .inr⟩
        exact absurd e.symm (h.ne hb)
      · rw [List.take_succ_cons, List.drop_succ_cons, List.cons_append]
        refine List.pairwise_cons.2 ⟨fun x hx => ?_, k5 fun e => hp (List.mem_cons_of_mem _ e)⟩
        rcases List.mem_append.1 hx with e | e
        · exact h1 x (List.mem_of_mem_take e)
        · rcases List.mem_cons.1 e with e | e
          · subst e; exact hb
          · exact h1 x (List.mem_of_mem_drop e)
    · refine ⟨0, Nat.zero_le _, fun i _ hi => absurd hi (Nat.not_lt_zero _), fun _ => hb, ?_, fun hp => ?_⟩
      · simp only [List.getElem?_cons_zero, List.mem_cons, Option.some.injEq]
        refine ⟨fun e => e.elim Eq.symm fun e => ?_, fun e => .inl e.symm⟩
        exact absurd (h1 p e) hb
      · have hlt : c p b = -1 := by
          have v := h.val b p
          have an := h.anti b p
          have : c b p ≠ 0 := fun e => hp (by rw [(h.eq b p).1 e]; exact List.mem_cons_self)
          omega
        show AscC c (p :: b :: l)
        refine List.pairwise_cons.2 ⟨fun x hx => ?_, hl⟩
        rcases List.mem_cons.1 hx with e | e
        · subst e; exact hlt
        · exact h.trans p b x hlt (h1 x e)
end
/-! ### Sorted by a number, the greatest first, what is alike as it stood -/
section
variable {α : Type}
structure StS (k : α → Int) (x l : List α) : Prop where
  srt : x.Pairwise fun a b => k b ≤ k a
  flt : ∀ b, x.filter (fun a => k a == b) = l.filter (fun a => k a == b)
theorem StS.mem {k : α → Int} {x l : List α} (h : StS k x l) {a : α} : a ∈ x ↔ a ∈ l := by
  have e := h.flt (k a)
  constructor
  · intro ha
    have : a ∈ x.filter (fun z => k z == k a) := List.mem_filter.2 ⟨ha, by simp⟩
    rw [e] at this
    exact (List.mem_filter.1 this).1
  · intro ha
    have : a ∈ l.filter (fun z => k z == k a) := List.mem_filter.2 ⟨ha, by simp⟩
    rw [← e] at this
    exact (List.mem_filter.1 this).1
theorem sts_ext {k : α → Int} : ∀ {x y l m : List α}, StS k x l → StS k y m → (∀ b, l.filter (fun a => k a == b) = m.filter (fun a => k a == b)) → x = y
  | [], [], _, _, _, _, _ => rfl
  | [], b :: y, l, m, hx, hy, e => by
    have h1 := hx.flt (k b)
    rw [e, ← hy.flt] at h1
    simp at h1
  | a :: x, [], l, m, hx, hy, e => by
    have h1 := hx.flt (k a)
    rw [e, ← hy.flt] at h1
    simp at h1
  | a :: x, b :: y, l, m, hx, hy, e => by
    obtain ⟨hx1, hx2⟩ := List.pairwise_cons.1 hx.srt
    obtain ⟨hy1, hy2⟩ := List.pairwise_cons.1 hy.srt
    have hf : ∀ c, (a :: x).filter (fun z => k z == c) = (b :: y).filter (fun z => k z == c) := fun c => by rw [hx.flt, hy.flt, e]
    have hk : k a = k b := by
      have h1 : a ∈ b :: y := by
        have : a ∈ (b :: y).filter (fun z => k z == k a) := by rw [← hf]; simp
        exact (List.mem_filter.1 this).1
      have h2 : b ∈ a :: x := by
        have : b ∈ (a :: x).filter (fun z => k z == k b) := by rw [hf]; simp
        exact (List.mem_filter.1 this).1
      have h3 : k a ≤ k b := by rcases List.mem_cons.1 h1 with e | e; rw [e]; exact Int.le_refl _; exact hy1 a e
      have h4 : k b ≤ k a := by rcases List.mem_cons.1 h2 with e | e; rw [e]; exact Int.le_refl _; exact hx1 b e
      omega
    have hab : a = b := by
      have h1 := hf (k a)
      rw [List.filter_cons_of_pos (by simp), List.filter_cons_of_pos (by simp [hk])] at h1
      exact (List.cons.inj h1).1
    subst hab
    have := sts_ext (x := x) (y := y) (l := x) (m := y) ⟨hx2, fun _ => rfl⟩ ⟨hy2, fun _ => rfl⟩ fun c => by
      have h1 := hf c
      by_cases hc : (k a == c) = true
      · rw [List.filter_cons_of_pos (p := fun z => k z == c) hc, List.filter_cons_of_pos (p := fun z => k z == c) hc] at h1
        exact (List.cons.inj h1).2
      · rw [List.filter_cons_of_neg (p := fun z => k z == c) hc, List.filter_cons_of_neg (p := fun z => k z == c) hc] at h1
        exact h1
    rw [this]
/-- One more, behind all that are as great. -/
def insS (k : α → Int) (a : α) : List α → List α
  | [] => [a]
  | b :: l => if k a ≤ k b then b :: insS k a l else a :: b :: l
theorem insS_split (k : α → Int) (a : α) : ∀ l : List α, ∃ m, m ≤ l.length ∧ insS k a l = l.take m ++ a :: l.drop m ∧ (∀ i (hi : i < l.length), i < m → k a ≤ k l[i]) ∧ (∀ (hi : m < l.length), k l[m] < k a)
  | [] => ⟨0, Nat.le_refl _, rfl, fun i hi => absurd hi (Nat.not_lt_zero _), fun hi => absurd hi (Nat.not_lt_zero _)⟩
  | b :: l => by
    unfold insS
    split
    · rename_i hb
      obtain ⟨m, h1, h2, h3, h4⟩ := insS_split k a l
      refine ⟨m + 1, by simp; omega, by rw [h2]; rfl, fun i hi hm => ?_, fun hi => h4 (by simpa using hi)⟩
      cases i with
      | zero => exact hb
      | succ i => exact h3 i (by simpa using hi) (by omega)
    · rename_i hb
      exact ⟨0, Nat.zero_le _, rfl, fun i _ hi => absurd hi (Nat.not_lt_zero _), fun _ => by simp only [List.getElem_cons_zero]; omega⟩
theorem insS_sts {k : α → Int} (a : α) : ∀ {x l : List α}, StS k x l → StS k (insS k a x) (l ++ [a]) := by
  intro x
  have flt : ∀ b, (insS k a x).filter (fun z => k z == b) = x.filter (fun z => k z == b) ++ [a].filter (fun z => k z == b) ∨ ¬ x.Pairwise (fun p q => k q ≤ k p) := by
    induction x with
    | nil => intro b; exact .inl rfl
    | cons c x ih =>
      intro b
      by_cases hs : (c :: x).Pairwise (fun p q => k q ≤ k p)
      rotate_left
      · exact .inr hs
      left
      obtain ⟨hs1, hs2⟩ := List.pairwise_cons.1 hs
      unfold insS
      split
      · rcases ih b with h | h
        · by_cases hc : (k c == b) = true
          · rw [List.filter_cons_of_pos (p := fun z => k z == b) hc, List.filter_cons_of_pos (p := fun z => k z == b) hc, h]; rfl
          · rw [List.filter_cons_of_neg (p := fun z => k z == b) hc, List.filter_cons_of_neg (p := fun z => k z == b) hc, h]
        · exact absurd hs2 h
      · rename_i hac
        by_cases hb : (k a == b) = true
        · have : (c :: x).filter (fun z => k z == b) = [] := by
            rw [List.filter_eq_nil_iff]
            intro z hz hzb
            rw [beq_iff_eq] at hzb hb
            rcases List.mem_cons.1 hz with e | e
            · subst e; omega
            · have := hs1 z e; omega
          rw [List.filter_cons_of_pos (p := fun z => k z == b) hb, this]; simp [hb]
        · rw [List.filter_cons_of_neg (p := fun z => k z == b) hb]; simp [hb]
  have srt : x.Pairwise (fun p q => k q ≤ k p) → (insS k a x).Pairwise (fun p q => k q ≤ k p) := by
    clear flt
    induction x with
    | nil => intro _; exact List.pairwise_singleton _ _
    | cons c x ih =>
      intro hs
      obtain ⟨hs1, hs2⟩ := List.pairwise_cons.1 hs
      unfold insS
      split
      · rename_i hac
        refine List.pairwise_cons.2 ⟨fun z hz => ?_, ih hs2⟩
        obtain ⟨m, _, e, _⟩ := insS_split k a x
        rw [e] at hz
        rcases List.mem_append.1 hz with h | h
        · exact hs1 z (List.mem_of_mem_take h)
        · rcases List.mem_cons.1 h with h | h
          · rw [h]; exact hac
          · exact hs1 z (List.mem_of_mem_drop h)
      · rename_i hac
        refine List.pairwise_cons.2 ⟨fun z hz => ?_, hs⟩
        rcases List.mem_cons.1 hz with h | h
        · rw [h]; omega
        · have := hs1 z h; omega
  intro l h
  refine ⟨srt h.srt, fun b => ?_⟩
  rcases flt b with e | e
  · rw [e, List.filter_append, h.flt]
  · exact absurd h.srt e
def sortS (k : α → Int) (l : List α) : List α := l.foldl (fun x a => insS k a x) []
theorem sortS_snoc (k : α → Int) (l : List α) (a : α) : sortS k (l ++ [a]) = insS k a (sortS k l) := by unfold sortS; rw [List.foldl_append]; rfl
theorem sortS_sts (k : α → Int) (l : List α) : StS k (sortS k l) l :=
  snoc_ind (P := fun l => StS k (sortS k l) l) ⟨List.Pairwise.nil, fun _ => rfl⟩ (fun l a h => by rw [sortS_snoc]; exact insS_sts a h) l
theorem insS_len (k : α → Int) (a : α) : ∀ l : List α, (insS k a l).length = l.length + 1
  | [] => rfl
  | b :: l => by unfold insS; split; simp [insS_len k a l]; rfl
theorem sortS_len (k : α → Int) (l : List α) : (sortS k l).length = l.length :=
  snoc_ind (P := fun l => (sortS k l).length = l.length) rfl (fun l a h => by rw [sortS_snoc, insS_len, h]; simp) l
/-- The first of the greatest stands ahead. -/
theorem sortS_sel (k : α → Int) (l : List α) (m : Nat) (hm : m < l.length) (h1 : ∀ i (hi : i < l.length), i < m → k l[i] < k l[m]) (h2 : ∀ i (hi : i < l.length), k l[i] ≤ k l[m]) : sortS k l = l[m] :: sortS k (l.take m ++ l.drop (m + 1)) := by
  have S := sortS_sts k (l.take m ++ l.drop (m + 1))
  have el : l = l.take m ++ l[m] :: l.drop (m + 1) := by
    conv => lhs; rw [← List.take_append_drop m l, List.drop_eq_getElem_cons hm]
  refine sts_ext (sortS_sts k l) (m := l) ⟨List.pairwise_cons.2 ⟨fun a ha => ?_, S.srt⟩, fun b => ?_⟩ fun _ => rfl
  · have hal : a ∈ l := by
      rw [el]
      rcases List.mem_append.1 (S.mem.1 ha) with h | h
      · exact List.mem_append_left _ h
      · exact List.mem_append_right _ (List.mem_cons_of_mem _ h)
    obtain ⟨i, hi, e⟩ := List.getElem_of_mem hal
    rw [← e]; exact h2 i hi
  · by_cases hb : (k l[m] == b) = true
    · rw [List.filter_cons_of_pos (p := fun z => k z == b) hb, S.flt]
      have h0 : (l.take m).filter (fun a => k a == b) = [] := by
        rw [List.filter_eq_nil_iff]
        intro z hz hzb
        obtain ⟨i, hi, e⟩ := List.getElem_of_mem hz
        rw [List.length_take] at hi
        have := h1 i (by omega) (by omega)
        rw [List.getElem_take] at e
        rw [e] at this
        rw [beq_iff_eq] at hb hzb
        omega
      conv => rhs; rw [el]
      rw [List.filter_append, List.filter_append, h0, List.filter_cons_of_pos (p := fun z => k z == b) hb]; rfl
    · rw [List.filter_cons_of_neg (p := fun z => k z == b) hb, S.flt]
      conv => rhs; rw [el]
      rw [List.filter_append, List.filter_append, List.filter_cons_of_neg (p := fun z => k z == b) hb]
end

/-! ### Loops -/
theorem vB {α β : Type} {x : Option α} {f : α → Option β} {r : α} {R : Option β} (h : x = some r) (h2 : f r = R) : x.bind f = R := by rw [h]; exact h2
theorem lt_c {i n : Nat} (h : i < n) : decide ((i : Int) < (n : Int)) = true := decide_eq_true (by omega)
theorem ge_c {i n : Nat} (h : ¬ i < n) : decide ((i : Int) < (n : Int)) = false := decide_eq_false (by omega)
theorem w1 {i : Nat} (h : i ≤ 1000000) : IntKind.i64.wrap ((i : Int) + 1) = ((i + 1 : Nat) : Int) := by rw [w64 (by omega) (by omega)]; rfl
theorem app1 {α : Type} {a : List α} {x : α} (h : a.length ≤ 1000000) : app a [x] = some (a ++ [x]) := app_of a [x] (by simp; omega)
/-- A loop over a list: what holds of each beginning, and its answer. -/
theorem iter_takeI {α σ ρ : Type} {step : σ → Option (σ ⊕ ρ)} (l : List α) (hl : l.length ≤ 900000) (st : Nat → List α → σ) (I : List α → Prop) (h0 : I []) (r : ρ)
    (hs : ∀ i (hi : i < l.length), I (l.take i) → (step (st i (l.take i)) = some (.inl (st (i + 1) (l.take i ++ [l[i]]))) ∧ I (l.take i ++ [l[i]])) ∨ step (st i (l.take i)) = some (.inr r))
    (he : I l → step (st l.length l) = some (.inr r)) : iter step NF (st 0 []) = some r := by
  have key : ∀ (d i n : Nat), i + d = l.length → d < n → I (l.take i) → iter step n (st i (l.take i)) = some r := by
    intro d
    induction d with
    | zero =>
      intro i n hi hn hI
      obtain ⟨n, rfl⟩ : ∃ j, n = j + 1 := ⟨n - 1, by omega⟩
      obtain rfl : i = l.length := by omega
      rw [List.take_length] at *
      exact iter_inr (he hI)
    | succ d ih =>
      intro i n hi hn hI
      obtain ⟨n, rfl⟩ : ∃ j, n = j + 1 := ⟨n - 1, by omega⟩
      have hlt : i < l.length := by omega
      rcases hs i hlt hI with ⟨h1, h2⟩ | h1
      · have e : l.take i ++ [l[i]] = l.take (i + 1) := by rw [List.take_succ_eq_append_getElem hlt]
        rw [e] at h1 h2
        rw [iter_inl h1]
        exact ih (i + 1) n (by omega) (by omega) h2
      · exact iter_inr h1
  exact key l.length 0 NF (by omega) (by rw [NF_eq]; omega) h0
theorem iter_take {α σ ρ : Type} {step : σ → Option (σ ⊕ ρ)} (l : List α) (hl : l.length ≤ 900000) (st : Nat → List α → σ) (r : ρ)
    (hs : ∀ i (hi : i < l.length), step (st i (l.take i)) = some (.inl (st (i + 1) (l.take i ++ [l[i]]))))
    (he : step (st l.length l) = some (.inr r)) : iter step NF (st 0 []) = some r :=
  iter_takeI l hl st (fun _ => True) trivial r (fun i hi _ => .inl ⟨hs i hi, trivial⟩) fun _ => he

end
end Go.Proofs.YtobhmahlenjheaaM
