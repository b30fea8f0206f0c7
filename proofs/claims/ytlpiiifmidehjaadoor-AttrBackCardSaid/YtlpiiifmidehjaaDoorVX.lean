/- Functions of the library by the kit's contracts. -/
import Derived.Test.YtlpiiifmidehjaaDoorS3
import Derived.Test.YtlpiiifmidehjaaDoorChecked
import Derived.KernelRfl
import Derived.Below
import Derived.Lib.Repeat
import Derived.Lib.Bytealg
import Derived.Laws.Externs
set_option linter.unusedSimpArgs false
set_option linter.unusedVariables false
namespace Go.Proofs.YtlpiiifmidehjaaDoorM
open Go Go.RowKit
section
variable {P : Program} {B : Nat}
/-- A function that the kit has a contract of: plain values in, a plain value out, no block of ours touched. -/
theorem HookOK.of_calls {f : FuncId} {g : List AV → Option AV} {fn : Func} {c : Code} (hf : P.funcs[f]? = some fn) (hb : fn.body = some c) (hn : (fn.name == "runtime.NumGoroutine") = false)
    (hg : ∀ args v, g args = some v → freeAV v = true ∧ ∀ (N : Nat → Prop) (φ : Nat → Loc) (args' : List Value), VRs N φ args args' → ∀ w : World, Calls P f args'.toArray w fun e w' => ∃ v', e = .returned v' ∧ (∀ N φ, VR N φ v v') ∧ Below w.heap.size w w') :
    HookOK P B f (fun args h => (g args).map fun v => (v, h)) := by
  intro args h v h' hr φ w args' r ha
  obtain ⟨v0, hv0, hbb⟩ := map_some hr
  cases hbb
  obtain ⟨hfree, hC⟩ := hg args v hv0
  have hcf : (callFunc f args'.toArray).run P w = .ok (.enter f args'.toArray) w := by
    unfold callFunc
    simp only [Sem.run_bind, run_program, Result.andThen_ok, hf, hn, Bool.false_eq_true, if_false, hb, Option.isNone_some, Sem.run_pure]
  rw [hcf]
  show Calls P f args'.toArray w _
  refine Calls.mono (hC _ _ _ ha w) ?_
  rintro e w' ⟨v', rfl, hv, bl⟩
  refine ⟨v', rfl, φ, hv _ _, ⟨fun id o hg => ?_, r.base, r.sep, Nat.le_trans r.bs bl.size⟩, ⟨bl.os, bl.tape, bl.output, bl.size, Nat.le_refl _, fun _ hk => hk, fun _ _ => rfl, fun k hk _ => bl.block k hk, fun id o hg ho => .inr ⟨id, o, hg, ho, rfl⟩⟩⟩
  cases hl : o.live with
  | false => cases o <;> first | trivial | cases hl
  | true => rw [bl.block _ (r.lt hg hl)]; exact r.obj id o hg

theorem VRs.inv_cons {N : Nat → Prop} {φ : Nat → Loc} {x : AV} {xs : List AV} {vs : List Value} (h : VRs N φ (x :: xs) vs) : ∃ v r, vs = v :: r ∧ VR N φ x v ∧ VRs N φ xs r := by
  cases vs with
  | nil => have := h.1; simp at this
  | cons v r => exact ⟨v, r, rfl, h.2 0 _ _ rfl rfl, by simpa using h.1, fun i a b ha hb => h.2 (i + 1) a b (by simpa using ha) (by simpa using hb)⟩
theorem VRs.inv_nil {N : Nat → Prop} {φ : Nat → Loc} {vs : List Value} (h : VRs N φ [] vs) : vs = [] := List.eq_nil_of_length_eq_zero h.1.symm
theorem VR.inv_str {N : Nat → Prop} {φ : Nat → Loc} {s : List UInt8} {v : Value} (h : VR N φ (.str s) v) : v = .string ⟨⟨s⟩⟩ := by cases h; rfl
theorem VR.inv_int {N : Nat → Prop} {φ : Nat → Loc} {k : IntKind} {n : Int} {v : Value} (h : VR N φ (.int k n) v) : v = .int k n := by cases h; rfl
theorem VR.inv_bool {N : Nat → Prop} {φ : Nat → Loc} {b : Bool} {v : Value} (h : VR N φ (.bool b) v) : v = .bool b := by cases h; rfl

/-! ### strings.Repeat -/
def F_strings_Repeat (s : List UInt8) (c : Int) : Option (List UInt8) := if 0 ≤ c ∧ s.length * c.toNat ≤ 1000000 ∧ c ≤ 1000000 then some (Lib.repeatL s c.toNat) else none
def kx_repeat : List AV → Option AV
  | [.str s, .int .i64 c] => (F_strings_Repeat s c).map fun r => .str r
  | _ => none
theorem ext_repeat {f : FuncId} {fn : Func} {c : Code} (hf : P.funcs[f]? = some fn) (hb : fn.body = some c) (hn : (fn.name == "runtime.NumGoroutine") = false)
    (hC : ∀ (s : ByteArray) (c : Nat) (w : World), c ≤ 9223372036854775807 → s.size * c ≤ 140737488355328 → Calls P f #[.string s, .int .i64 c] w fun e w' => e = .returned (.string ⟨(Lib.repeatL s.data.toList c).toArray⟩) ∧ Below w.heap.size w w') :
    HookOK P B f (fun args h => (kx_repeat args).map fun v => (v, h)) := by
  refine HookOK.of_calls hf hb hn fun args v hv => ?_
  unfold kx_repeat at hv
  split at hv
  rotate_left
  · cases hv
  rename_i s c
  unfold F_strings_Repeat at hv
  split at hv
  rotate_left
  · cases hv
  rename_i hc
  cases hv
  refine ⟨rfl, fun N φ args' ha w => ?_⟩
  obtain ⟨v1, r1, rfl, h1, ha⟩ := ha.inv_cons
  obtain ⟨v2, r2, rfl, h2, ha⟩ := ha.inv_cons
  obtain rfl := ha.inv_nil
  obtain rfl := h1.inv_str
  obtain rfl := h2.inv_int
  have h3 := hC ⟨⟨s⟩⟩ c.toNat w (by omega) (by show s.length * c.toNat ≤ _; omega)
  rw [show ((c.toNat : Nat) : Int) = c by omega] at h3
  refine h3.mono ?_
  rintro e w' ⟨rfl, bl⟩
  exact ⟨_, rfl, fun N φ => .str _, bl⟩
end
section
variable {P : Program} {B : Nat}
/-! ### Functions without a body -/
theorem HookOK.ofNative {f : FuncId} {g : List AV → Option AV} {fn : Func} {e : Array Value → Sem Value} (hf : P.funcs[f]? = some fn) (hb : fn.body.isNone = true) (hn : (fn.name == "runtime.NumGoroutine") = false) (h1 : Extern.findNext fn = none) (h2 : Extern.find fn = some e)
    (hg : ∀ args v, g args = some v → freeAV v = true ∧ ∀ (N : Nat → Prop) (φ : Nat → Loc) (args' : List Value), VRs N φ args args' → ∀ w : World, ∃ v', (e args'.toArray).run P w = .ok v' w ∧ ∀ N φ, VR N φ v v') :
    HookOK P B f (fun args h => (g args).map fun v => (v, h)) := by
  intro args h v h' hr φ w args' r ha
  obtain ⟨v0, hv0, hbb⟩ := map_some hr
  cases hbb
  obtain ⟨hfree, hC⟩ := hg args v hv0
  obtain ⟨v', k1, k2⟩ := hC _ _ _ ha w
  have hcf : (callFunc f args'.toArray).run P w = .ok (.value v') w := by
    unfold callFunc
    simp only [Sem.run_bind, run_program, Result.andThen_ok, hf, hn, Bool.false_eq_true, if_false, hb, if_true, h1, h2, run_mark, k1, Sem.run_pure]
  rw [hcf]
  exact ⟨φ, k2 _ _, r, Step.refl _ _ _⟩
theorem byte_nat {c : Int} (h0 : 0 ≤ c) (h1 : c < 256) : ((c.toNat.toUInt8).toNat : Int) = c := by
  have : (c.toNat.toUInt8).toNat = c.toNat % 256 := by simp
  rw [this]; omega
def kx_indexByte : List AV → Option AV
  | [.str s, .int .u8 c] => some (.int .i64 (Lib.indexByte s c.toNat.toUInt8))
  | _ => none
def kx_countByte : List AV → Option AV
  | [.str s, .int .u8 c] => some (.int .i64 (Lib.countByte s c.toNat.toUInt8))
  | _ => none
theorem nat_indexByte {f : FuncId} {fn : Func} (hf : P.funcs[f]? = some fn) (hb : fn.body.isNone = true) (hn : (fn.name == "runtime.NumGoroutine") = false) (h1 : Extern.findNext fn = none) (h2 : Extern.find fn = some Extern.BytealgIndexByte.indexByte) : HookOK P B f (fun args h => (kx_indexByte args).map fun v => (v, h)) := by
  refine HookOK.ofNative hf hb hn h1 h2 fun args v hv => ?_
  unfold kx_indexByte at hv
  split at hv
  rotate_left
  · cases hv
  cases hv
  refine ⟨rfl, fun N φ args' ha w => ?_⟩
  obtain ⟨v1, r1, rfl, h1, ha⟩ := ha.inv_cons
  obtain ⟨v2, r2, rfl, h2, ha⟩ := ha.inv_cons
  obtain rfl := ha.inv_nil
  obtain rfl := h1.inv_str
  obtain rfl := h2.inv_int
  exact ⟨_, Lib.run_indexByteString _ _ w, fun N φ => .int _ _⟩
theorem nat_countByte {f : FuncId} {fn : Func} (hf : P.funcs[f]? = some fn) (hb : fn.body.isNone = true) (hn : (fn.name == "runtime.NumGoroutine") = false) (h1 : Extern.findNext fn = none) (h2 : Extern.find fn = some Extern.BytealgCount.count) : HookOK P B f (fun args h => (kx_countByte args).map fun v => (v, h)) := by
  refine HookOK.ofNative hf hb hn h1 h2 fun args v hv => ?_
  unfold kx_countByte at hv
  split at hv
  rotate_left
  · cases hv
  cases hv
  refine ⟨rfl, fun N φ args' ha w => ?_⟩
  obtain ⟨v1, r1, rfl, h1, ha⟩ := ha.inv_cons
  obtain ⟨v2, r2, rfl, h2, ha⟩ := ha.inv_cons
  obtain rfl := ha.inv_nil
  obtain rfl := h1.inv_str
  obtain rfl := h2.inv_int
  exact ⟨_, Lib.run_countString _ _ w, fun N φ => .int _ _⟩
end
section
variable {K : PureK}
def hb77 : List AV → Option AV
  | [x] => some x
  | _ => none
theorem hb_hook (hk : K 109 = some hb77) : hooksOf K 109 = some handsBack := by
  simp only [hooksOf, hk, Option.map_some, Option.some.injEq]
  funext args g
  unfold hb77 handsBack
  split
  · rfl
  · rename_i hne
    split
    · rename_i x; exact absurd rfl (hne x)
    · rfl
set_option maxRecDepth 100000 in
theorem hb_ok {B : Nat} : HookOK Tryd.prog B 109 (fun args h => (hb77 args).map fun v => (v, h)) := by
  have := HookOK.noEscape (B := B) Tryd.func109 (by kernel_rfl) (by kernel_rfl) (by kernel_rfl) rfl
  have e : (fun args h => (hb77 args).map fun v => (v, h)) = handsBack := by
    funext args g
    unfold hb77 handsBack
    split
    · rfl
    · rename_i hne
      split
      · rename_i x; exact absurd rfl (hne x)
      · rfl
  rw [e]; exact this


end
end Go.Proofs.YtlpiiifmidehjaaDoorM
