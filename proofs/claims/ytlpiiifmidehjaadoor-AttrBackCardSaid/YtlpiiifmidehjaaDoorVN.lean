/- Functions without a body, as entries. -/
import Derived.Test.YtlpiiifmidehjaaDoorV20
import Derived.Test.YtlpiiifmidehjaaDoorVX
set_option linter.unusedSimpArgs false
set_option linter.unusedVariables false
namespace Go.Proofs.YtlpiiifmidehjaaDoorM
open Go Go.RowKit

theorem HookOK.mono {P : Program} {B : Nat} {f : FuncId} {k k' : List AV → Option AV} (h : HookOK P B f (fun args h => (k' args).map fun v => (v, h))) (hk : ∀ args v, k args = some v → k' args = some v) : HookOK P B f (fun args h => (k args).map fun v => (v, h)) := by
  intro args g v h' hr φ w args' r ha
  refine h args g v h' ?_ φ w args' r ha
  obtain ⟨v0, hv0, e⟩ := map_some hr
  show (k' args).map _ = _
  rw [hk args v0 hv0]
  exact congrArg some e
/-- What a hook's arguments are, where they fit. -/
theorem kOf_inv {e : VEnt} {args : List AV} {v : AV} (hos : e.ps.os = []) (hk : kOf e args = some v) : ∃ p q, e.F p = some q ∧ unpAlt e.rs q outAV = some v ∧ EnvR g0 [] (e.ps.unp p).ts args := by
  unfold kOf at hk
  obtain ⟨p, hpk, hk⟩ := Option.bind_eq_some_iff.1 hk
  obtain ⟨q, hq, hk⟩ := Option.bind_eq_some_iff.1 hk
  have E0 : EnvR g0 [] (VS.mk (args.map svOf) []).ts args := ⟨by simp, fun d s x k1 k2 => by
    have k1' : (args.map svOf)[d]? = some s := k1
    rw [List.getElem?_map, k2] at k1'
    cases k1'
    exact svOf_ok x⟩
  obtain ⟨_, E1⟩ := Sh.pack_ok (S := ⟨args.map svOf, []⟩) hpk (VMem.empty ⟨0, []⟩) E0
  exact ⟨p, q, hq, hk, E1⟩
theorem envR_pv {T : Ty} {v : T.D} {x : AV} {g : FM} {H : List AV} (hf : T.flat = true) (h : SVR g H (.pv T v) x) : x = encV T v := by
  obtain ⟨y, hy, h⟩ := h
  cases hy
  exact repV_enc hf h
theorem envR_cons {g : FM} {H : List AV} {s : SV} {ts : List SV} {args : List AV} (E : EnvR g H (s :: ts) args) : ∃ x r, args = x :: r ∧ SVR g H s x ∧ EnvR g H ts r := by
  cases args with
  | nil => exact absurd E.len (by simp)
  | cons x r => exact ⟨x, r, rfl, E.get 0 _ _ rfl rfl, by simpa using E.len, fun d s' x' h1 h2 => E.get (d + 1) s' x' (by simpa using h1) (by simpa using h2)⟩
theorem envR_nil {g : FM} {H : List AV} {args : List AV} (E : EnvR g H [] args) : args = [] := List.eq_nil_of_length_eq_zero E.len

def F_countByte (s : List UInt8) (c : Int) : Option (Int × Unit) := some ((Lib.countByte s c.toNat.toUInt8 : Int), ())
def F_indexByte (s : List UInt8) (c : Int) : Option (Int × Unit) := some (Lib.indexByte s c.toNat.toUInt8, ())
def eCountByte (f : FuncId) : VEnt := ⟨f, ⟨[.pv .str, .pv (.int .u8)], []⟩, [⟨[.pv (.int .i64)], []⟩], fun q => F_countByte q.1 q.2.1⟩
def eIndexByte (f : FuncId) : VEnt := ⟨f, ⟨[.pv .str, .pv (.int .u8)], []⟩, [⟨[.pv (.int .i64)], []⟩], fun q => F_indexByte q.1 q.2.1⟩
theorem hook_countByte {P : Program} {B : Nat} {f : FuncId} (h : HookOK P B f (fun args h => (kx_countByte args).map fun v => (v, h))) : HookOK P B f (fun args h => (kOf (eCountByte f) args).map fun v => (v, h)) := by
  refine h.mono fun args v hk => ?_
  obtain ⟨p, q, h1, h2, E⟩ := kOf_inv rfl hk
  obtain ⟨x1, r1, rfl, k1, E⟩ := envR_cons E
  obtain ⟨x2, r2, rfl, k2, E⟩ := envR_cons E
  obtain rfl := envR_nil E
  obtain rfl := envR_pv (T := .str) rfl k1
  obtain rfl := envR_pv (T := .int .u8) rfl k2
  have h1 : F_countByte p.1 p.2.1 = some q := h1
  cases h1
  have h2 : some (AV.int .i64 (Lib.countByte p.1 p.2.1.toNat.toUInt8 : Int)) = some v := h2
  exact h2
theorem hook_indexByte {P : Program} {B : Nat} {f : FuncId} (h : HookOK P B f (fun args h => (kx_indexByte args).map fun v => (v, h))) : HookOK P B f (fun args h => (kOf (eIndexByte f) args).map fun v => (v, h)) := by
  refine h.mono fun args v hk => ?_
  obtain ⟨p, q, h1, h2, E⟩ := kOf_inv rfl hk
  obtain ⟨x1, r1, rfl, k1, E⟩ := envR_cons E
  obtain ⟨x2, r2, rfl, k2, E⟩ := envR_cons E
  obtain rfl := envR_nil E
  obtain rfl := envR_pv (T := .str) rfl k1
  obtain rfl := envR_pv (T := .int .u8) rfl k2
  have h1 : F_indexByte p.1 p.2.1 = some q := h1
  cases h1
  have h2 : some (AV.int .i64 (Lib.indexByte p.1 p.2.1.toNat.toUInt8)) = some v := h2
  exact h2
end Go.Proofs.YtlpiiifmidehjaaDoorM
