/- Functions of the library by the kit's contracts; elements of arrays. -/
import Derived.Test.YtobhmahlenjheaaS9
import Derived.Below
import Derived.Lib.Repeat
set_option linter.unusedSimpArgs false
set_option linter.unusedVariables false
namespace Go.Proofs.YtobhmahlenjheaaM
open Go Go.RowKit
variable {P : Program} {B : Nat}

theorem aindex_al {t e : TypeId} {n : Nat} {k k' : IntKind} {l : List Int} {i y : Int} (ht : P.underlying t = some (.array n e)) (hs : szOf P e = some 1) (ha : isAg P e = some false) (hy : idxA n l i = some y) :
    aindex P t (.agg (l.map (AV.int k))) (.int k' i) = some (.int k y) := by
  unfold idxA at hy
  split at hy
  rotate_left
  · cases hy
  rename_i hc
  simp only [aindex, ht, hs]
  rw [if_pos (by omega)]
  have := apart_idxA (P := P) (t := e) (l := l) (k := k) (n := n) (i := i) (x := y) ha (by unfold idxA; rw [if_pos hc]; exact hy)
  simpa using this

/-! ### What is old from here on -/
section
variable {h h' h0 : AH} {X : List Nat} {L : List Ent}
theorem Sep.base {A L' : List Ent} (S : Sep h0 X h A) (S' : Sep h (A.flatMap Ent.ids) h' L') : Sep h0 X h' L' := Sep.callN (R := []) (A := A) S S'
theorem Sep.ro_away {sz : Nat} {u : AV} {xs : List (List AV)} (S : Sep h0 X h L) (hx : xs = [] ∨ ∀ k ∈ idsOf u, k ∉ X) (hs : RO sz u h0 xs) : RO sz u h xs := by
  rcases hx with hx | hx
  · subst hx
    refine ⟨fun x hx => (by cases hx), ?_⟩
    rcases hs.2 with hh | ⟨id, off, c, o, f, t, rfl, _⟩ | hh
    · exact .inl hh
    · exact .inr (.inr ⟨rfl, id, off, rfl⟩)
    · exact .inr (.inr hh)
  · exact S.roX hx hs
theorem Sep.away_mem {sz : Nat} {u : AV} {xs : List (List AV)} (S : Sep h0 X h L) (hs : RO sz u h0 xs) (hx : xs = [] ∨ ∀ k ∈ idsOf u, k ∉ X) : xs = [] ∨ ∀ k ∈ idsOf u, ∀ e ∈ L, k ∉ e.ids := by
  rcases hx with hx | hx
  · exact .inl hx
  rcases hs.2 with ⟨_, rfl⟩ | ⟨id, off, c, o, f, t, rfl, hg, _⟩ | ⟨hh, _⟩
  · exact .inr fun k hk => by cases hk
  · refine .inr fun k hk e he hke => ?_
    have h1 : k = id := by simpa [idsOf] using hk
    rcases S.own e he k hke with h2 | h2
    · exact hx k hk h2
    · have := AH.get_lt hg; omega
  · exact .inl hh
theorem Sep.away_all {sz : Nat} {u : AV} {xs : List (List AV)} (S : Sep h0 X h L) (hs : RO sz u h0 xs) (hx : xs = [] ∨ ∀ k ∈ idsOf u, k ∉ X) : xs = [] ∨ ∀ k ∈ idsOf u, k ∉ L.flatMap Ent.ids := by
  rcases S.away_mem hs hx with h1 | h1
  · exact .inl h1
  · refine .inr fun k hk hm => ?_
    obtain ⟨e, he, hke⟩ := List.mem_flatMap.1 hm
    exact h1 k hk e he hke
theorem pick_mem {L' : List Ent} {idx : List Nat} (he : idx.map (fun j => L[j]?) = L'.map some) {e : Ent} (hm : e ∈ L') : ∃ j ∈ idx, L[j]? = some e := by
  have h1 : some e ∈ L'.map some := List.mem_map.2 ⟨e, hm, rfl⟩
  rw [← he] at h1
  obtain ⟨j, hj, hje⟩ := List.mem_map.1 h1
  exact ⟨j, hj, hje⟩
theorem Sep.away_ro {sz : Nat} {u : AV} {xs : List (List AV)} {L' : List Ent} (S : Sep h0 X h L) (hs : RO sz u h0 xs) (hx : xs = [] ∨ ∀ k ∈ idsOf u, k ∉ X) (idx : List Nat) (he : idx.map (fun j => L[j]?) = L'.map some) : xs = [] ∨ ∀ k ∈ idsOf u, k ∉ L'.flatMap Ent.ids := by
  rcases S.away_mem hs hx with h1 | h1
  · exact .inl h1
  · refine .inr fun k hk hm => ?_
    obtain ⟨e, hm, hke⟩ := List.mem_flatMap.1 hm
    obtain ⟨j, _, hj⟩ := pick_mem he hm
    exact h1 k hk e (List.mem_of_getElem? hj) hke
theorem Sep.away_row (S : Sep h0 X h L) (i : Nat) {u : AV} {e : TypeId} {sz : Nat} {xs : List (List AV)} {L' : List Ent} (hi : L[i]? = some (.row u e sz xs)) (idx : List Nat) (hd : idx.all (fun j => j != i) = true) (he : idx.map (fun j => L[j]?) = L'.map some) : xs = [] ∨ ∀ k ∈ idsOf u, k ∉ L'.flatMap Ent.ids := by
  refine .inr fun k hk hm => ?_
  obtain ⟨e', hm, hke⟩ := List.mem_flatMap.1 hm
  obtain ⟨j, hj, hje⟩ := pick_mem he hm
  have hne : j ≠ i := by simpa using List.all_eq_true.1 hd j hj
  exact nodup_other S.nd hi j e' hje hne k hke hk
theorem away_sub {α : Type} {f : α → List AV} {zs ys : List α} {u u' : AV} {a c : Int} (hy : subL zs a c = some ys) (hid : ∀ k ∈ idsOf u', k ∈ idsOf u) (hx : (zs.map f) = [] ∨ ∀ k ∈ idsOf u, k ∉ X) : (ys.map f) = [] ∨ ∀ k ∈ idsOf u', k ∉ X := by
  rcases hx with hx | hx
  · rw [List.map_eq_nil_iff] at hx
    subst hx
    unfold subL at hy
    split at hy
    · cases hy; exact .inl (by simp)
    · cases hy
  · exact .inr fun k hk => hx k (hid k hk)
end

/-- A function that the kit has a contract of: plain values in, a plain value out, no block of ours touched. -/
theorem HookOK.of_calls {f : FuncId} {g : List AV → Option AV} {fn : Func} {c : Code} (hf : P.funcs[f]? = some fn) (hb : fn.body = some c) (hn : (fn.name == "runtime.NumGoroutine") = false)
    (hg : ∀ args v, g args = some v → freeAV v = true ∧ ∀ (N : Nat → Prop) (φ : Nat → Loc) (args' : List Value), VRs N φ args args' → ∀ w : World, Calls P f args'.toArray w fun e w' => ∃ v', e = .returned v' ∧ (∀ N φ, VR N φ v v') ∧ Below w.heap.size w w') :
    HookOK P B f (fun args h => (g args).map fun v => (v, h)) := by
  intro args h v h' hr φ w args' r ha
  obtain ⟨v0, hv0, hbb⟩ := map_some hr
  cases hbb
  obtain ⟨hfree, hC⟩ := hg args v hv0
  have hcf : (callFunc f args'.toArray).run P w = .ok (.enter f args'.toArray) w := by
    unfold callFunc
    simp only [Sem.run_bind, run_program, Result.andThen_ok, hf, hn, Bool.false_eq_true, if_false, hb, Option.isNone_some, Sem.run_pure]
  rw [hcf]
  show Calls P f args'.toArray w _
  refine Calls.mono (hC _ _ _ ha w) ?_
  rintro e w' ⟨v', rfl, hv, bl⟩
  refine ⟨v', rfl, φ, hv _ _, ⟨fun id o hg => ?_, r.base, r.sep, Nat.le_trans r.bs bl.size⟩, ⟨bl.os, bl.tape, bl.output, bl.size, Nat.le_refl _, fun _ hk => hk, fun _ _ => rfl, fun k hk _ => bl.block k hk, fun id o hg ho => .inr ⟨id, o, hg, ho, rfl⟩⟩⟩
  cases hl : o.live with
  | false => cases o <;> first | trivial | cases hl
  | true => rw [bl.block _ (r.lt hg hl)]; exact r.obj id o hg

theorem VRs.inv_cons {N : Nat → Prop} {φ : Nat → Loc} {x : AV} {xs : List AV} {vs : List Value} (h : VRs N φ (x :: xs) vs) : ∃ v r, vs = v :: r ∧ VR N φ x v ∧ VRs N φ xs r := by
  cases vs with
  | nil => have := h.1; simp at this
  | cons v r => exact ⟨v, r, rfl, h.2 0 _ _ rfl rfl, by simpa using h.1, fun i a b ha hb => h.2 (i + 1) a b (by simpa using ha) (by simpa using hb)⟩
theorem VRs.inv_nil {N : Nat → Prop} {φ : Nat → Loc} {vs : List Value} (h : VRs N φ [] vs) : vs = [] := List.eq_nil_of_length_eq_zero h.1.symm
theorem VR.inv_str {N : Nat → Prop} {φ : Nat → Loc} {s : List UInt8} {v : Value} (h : VR N φ (.str s) v) : v = .string ⟨⟨s⟩⟩ := by cases h; rfl
theorem VR.inv_int {N : Nat → Prop} {φ : Nat → Loc} {k : IntKind} {n : Int} {v : Value} (h : VR N φ (.int k n) v) : v = .int k n := by cases h; rfl
theorem VR.inv_bool {N : Nat → Prop} {φ : Nat → Loc} {b : Bool} {v : Value} (h : VR N φ (.bool b) v) : v = .bool b := by cases h; rfl

/-! ### strings.Repeat -/
def F_strings_Repeat (s : List UInt8) (c : Int) : Option (List UInt8) := if 0 ≤ c ∧ s.length * c.toNat ≤ 1000000 ∧ c ≤ 1000000 then some (Lib.repeatL s c.toNat) else none
def kx_repeat : List AV → Option AV
  | [.str s, .int .i64 c] => (F_strings_Repeat s c).map fun r => .str r
  | _ => none
theorem ext_repeat {f : FuncId} {fn : Func} {c : Code} (hf : P.funcs[f]? = some fn) (hb : fn.body = some c) (hn : (fn.name == "runtime.NumGoroutine") = false)
    (hC : ∀ (s : ByteArray) (c : Nat) (w : World), c ≤ 9223372036854775807 → s.size * c ≤ 140737488355328 → Calls P f #[.string s, .int .i64 c] w fun e w' => e = .returned (.string ⟨(Lib.repeatL s.data.toList c).toArray⟩) ∧ Below w.heap.size w w') :
    HookOK P B f (fun args h => (kx_repeat args).map fun v => (v, h)) := by
  refine HookOK.of_calls hf hb hn fun args v hv => ?_
  unfold kx_repeat at hv
  split at hv
  rotate_left
  · cases hv
  rename_i s c
  unfold F_strings_Repeat at hv
  split at hv
  rotate_left
  · cases hv
  rename_i hc
  cases hv
  refine ⟨rfl, fun N φ args' ha w => ?_⟩
  obtain ⟨v1, r1, rfl, h1, ha⟩ := ha.inv_cons
  obtain ⟨v2, r2, rfl, h2, ha⟩ := ha.inv_cons
  obtain rfl := ha.inv_nil
  obtain rfl := h1.inv_str
  obtain rfl := h2.inv_int
  have h3 := hC ⟨⟨s⟩⟩ c.toNat w (by omega) (by show s.length * c.toNat ≤ _; omega)
  rw [show ((c.toNat : Nat) : Int) = c by omega] at h3
  refine h3.mono ?_
  rintro e w' ⟨rfl, bl⟩
  exact ⟨_, rfl, fun N φ => .str _, bl⟩
end Go.Proofs.YtobhmahlenjheaaM
