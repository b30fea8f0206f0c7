/- The row of ExtraResolves: whatever the input, the law answers true, and its arguments read as they did. -/
import Derived.Test.YtikkpmmhejjpaaaEXH
import Derived.Test.YtikkpmmhejjpaaaEXP17
import Derived.Test.YtikkpmmhejjpaaaOP2
import Derived.Test.YtikkpmmhejjpaaaRows
namespace Go.Proofs.Ytikkpmmhejjpaaa.extraResolves
open Go.ChangeShapes Go.WideShapes Go.ChangeAt Go.RowKit
open Go.ChangeMaps (open_string shut_string)
open Go.Proofs.YtikkpmmhejjpaaaM
set_option linter.unusedVariables false
set_option linter.unusedSimpArgs false
set_option maxRecDepth 100000 in
set_option maxHeartbeats 4000000 in
theorem law (w : World) (sa0 : Value) (a0 : List Gapi_Extra) (Aa0 : ArgS w 2 Gapi_Extra.cells sa0 a0) (a1_0 : Int) (wa1_0 : (Lit.int .u32 a1_0).wf = true) (a1_1 : Int) (wa1_1 : (Lit.int .u32 a1_1).wf = true) (a1_2 : Int) (wa1_2 : (Lit.int .u32 a1_2).wf = true) (sa2 : Value) (a2 : List Int) (Aa2 : ArgS w 1 (cellI .i64) sa2 a2) : Calls Try.prog 6 #[sa0, .agg ([.int .u32 a1_0, .int .u32 a1_1, .int .u32 a1_2] : List Value).toArray, sa2] w fun e w' => e = .returned (.bool true) ∧ Below w.heap.size w w' := by
  have hF : F_law17_ExtraResolves a0 [a1_0, a1_1, a1_2] a2 = some true := true_law17_ExtraResolves a0 a1_0 a1_1 a1_2 a2 wa1_0 wa1_1 wa1_2
  obtain ⟨l0, o0, ow0, or0, pl0⟩ := Aa0.place
  obtain ⟨l2, o2, ow2, or2, pl2⟩ := Aa2.place
  let φ : Nat → Go.Proofs.YtikkpmmhejjpaaaM.Loc := fun i => match i with | 0 => l0 | _ => l2
  let h0 : AH := ⟨2, [some o2, some o0]⟩
  have hO : ∀ id o, h0.get id = some o → o.owned = false ∧ ∀ N ψ, ObjR N ψ (φ id) o w.heap[(φ id).b]? := by
    intro id o hg
    match id, hg with
    | 0, hg => cases hg; exact ⟨ow0, or0⟩
    | 1, hg => cases hg; exact ⟨ow2, or2⟩
    | id + 2, hg => exact absurd hg (by show (if id + 2 < 2 then _ else none) ≠ _; rw [if_neg (by omega)]; exact fun h => by cases h)
  obtain ⟨u0, vr0, ro0⟩ := pl0 h0 φ 0 rfl rfl
  obtain ⟨u2, vr2, ro2⟩ := pl2 h0 φ 1 rfl rfl
  obtain ⟨m, hm⟩ : ∃ m, NF + 6 ≤ m := ⟨_, Nat.le_refl _⟩
  obtain ⟨v, h1, e, rfl, -⟩ := (W_law17_ExtraResolves (K := K15) rfl rfl rfl rfl rfl rfl rfl rfl rfl rfl rfl rfl rfl rfl rfl rfl rfl rfl rfl rfl rfl rfl m hm h0 u0 a0 ro0 a1_0 a1_1 a1_2 u2 a2 ro2 hF).out
  exact law_of_run (φ := φ) (args := [u0, .agg [.int .u32 a1_0, .int .u32 a1_1, .int .u32 a1_2], u2]) (args' := [sa0, .agg ([.int .u32 a1_0, .int .u32 a1_1, .int .u32 a1_2] : List Value).toArray, sa2]) K15ok.hooks (drawnOf_ok (by kernel_rfl) K15ok.tab) noGoroutineK e (Rel.args hO) (fun id o hg => (hO id o hg).1) (VRs.cons vr0 (VRs.cons (VR.aggOf (VRs.cons (.int _ _) (VRs.cons (.int _ _) (VRs.cons (.int _ _) (VRs.nil _ _))))) (VRs.cons vr2 (VRs.nil _ _)))) Try.func6 rfl rfl
theorem own : ownKnob Try.prog.godebug = none := by kernel_rfl
theorem laid : laidOutB Try.prog = true := by kernel_rfl
set_option maxRecDepth 100000 in
set_option maxHeartbeats 4000000 in
theorem lifted (os : Os) (started : os.Started) (H : Type) (enc : TypeId × Value → H) :
    ReturnsInHanded {} Try.checked os 6 .any (Rows.extraResolvesSpec.pre6 enc Try.prog Try.f6 Rows.extraResolvesRow.domain false) (Rows.extraResolvesSpec.post enc Try.prog Try.f6 false true false false) := by
  refine returnsInHanded_of_change_sized (C := Try.checked) own started (by kernel_rfl) Try.func6
    (ChangeSpec.witness6 (enc := enc) (C := Try.checked) false ⟨#[], #[.slice none 0 0, .agg #[.int .u32 0, .int .u32 0, .int .u32 0], .slice none 0 0], []⟩ 8 (by kernel_rfl) (by kernel_rfl) (by kernel_rfl) (by kernel_rfl)) ?_
  intro W base args ds gs before hval0 hW hcnd hsz0 _
  have hval : ∀ (j : Nat) t v, Try.f6.params[j]? = some t → args[j]? = some v → Value.okWide Try.prog W .any base t v := hval0
  have hW' := hW
  obtain ⟨p, q, hA0, hV, rfl, hfz, hnd⟩ := hW
  have hA : DataW.TrodAll enc Try.prog W 0 (fun _ => true) true Try.f6.params.toList args.toList ds p := hA0
  rw [Try.params6] at hA hval
  obtain ⟨v0, vs0, d0, ds0, p0, q0, hargs, rfl, rfl, h0, r0⟩ := trodAll_cons hA
  obtain ⟨v1, vs1, d1, ds1, p1, q1, rfl, rfl, rfl, h1, r1⟩ := trodAll_cons r0
  obtain ⟨v2, vs2, d2, ds2, p2, q2, rfl, rfl, rfl, h2, r2⟩ := trodAll_cons r1
  obtain ⟨rfl, rfl, rfl⟩ := trodAll_nil r2
  obtain rfl : args = #[v0, v1, v2] := by cases args; simp_all
  obtain ⟨rfl, rfl⟩ := trodVars_none hV
  have hlt : ∀ x ∈ p0 ++ p1 ++ p2, x.block < W.heap.size := fun x hx => hW'.lt x (by simpa using hx)
  have k0 := h0
  obtain ⟨a0, _, A0⟩ := open_sliceK (sz := 2) Try.underlying35 (by kernel_rfl) (by omega) (hval 0 35 v0 rfl rfl) h0 Gapi_Extra.cells (fun _ => True) (by
    intro nn cs y hy hl
    obtain ⟨c_0, cr_0, rfl, z_0⟩ := uncons hl
    obtain ⟨c_1, cr_1, rfl, z_1⟩ := uncons z_0
    obtain rfl := unnil z_1
    obtain ⟨xs, n1, _, _, hl1, hxl, hfs⟩ := DataW.trod_struct Try.underlying47 hy
    obtain ⟨_, g_0⟩ := field_at hfs hxl 0 _ rfl c_0 (by rw [show Try.prog.cellsOf _ = 1 from by kernel_rfl]; rfl)
    obtain ⟨x_0, rfl, w_0⟩ := leaf_int Try.underlying3 g_0
    obtain ⟨_, g_1⟩ := field_at hfs hxl 1 _ rfl c_1 (by rw [show Try.prog.cellsOf _ = 1 from by kernel_rfl]; rfl)
    obtain ⟨x_1, rfl, y_1⟩ := leaf_str Try.underlying9 g_1
    exact ⟨(⟨x_0, x_1⟩ : Gapi_Extra), trivial, rfl, fun N φ => (VRs.cons (.int _ _) (VRs.cons (.str _) (VRs.nil _ _)))⟩)
  have k1 := h1
  obtain ⟨cl1, n1, rfl, hl1, hf1⟩ := open_arrayK Try.underlying51 (hval 1 51 v1 rfl rfl) h1
  replace hl1 : cl1.length = 3 := hl1.trans (by kernel_rfl)
  rw [show Try.prog.cellsOf 33 = 1 from by kernel_rfl] at hf1
  obtain ⟨c1_0, cr1_0, rfl, z1_0⟩ := uncons hl1
  obtain ⟨c1_1, cr1_1, rfl, z1_1⟩ := uncons z1_0
  obtain ⟨c1_2, cr1_2, rfl, z1_2⟩ := uncons z1_1
  obtain rfl := unnil z1_2
  obtain ⟨_, g1_0⟩ := hf1 0 (by omega)
  obtain ⟨a1_0, rfl, w1_0⟩ := leaf_int (c := c1_0) Try.underlying33 g1_0
  obtain ⟨_, g1_1⟩ := hf1 1 (by omega)
  obtain ⟨a1_1, rfl, w1_1⟩ := leaf_int (c := c1_1) Try.underlying33 g1_1
  obtain ⟨_, g1_2⟩ := hf1 2 (by omega)
  obtain ⟨a1_2, rfl, w1_2⟩ := leaf_int (c := c1_2) Try.underlying33 g1_2
  have k2 := h2
  obtain ⟨a2, _, A2⟩ := open_sliceK (sz := 1) Try.underlying52 (by kernel_rfl) (by omega) (hval 2 52 v2 rfl rfl) h2 (cellI .i64) (fun _ => True) (by
    intro nn cs y hy hl
    obtain ⟨c_0, cr_0, rfl, z_0⟩ := uncons hl
    obtain rfl := unnil z_0
    obtain ⟨x_0, rfl, w_0⟩ := leaf_int Try.underlying3 hy
    exact ⟨x_0, trivial, rfl, fun N φ => (VRs.cons (.int _ _) (VRs.nil _ _))⟩)
  refine (law W v0 a0 A0 a1_0 w1_0 a1_1 w1_1 a1_2 w1_2 v2 a2 A2).mono fun e W' ⟨he, bel⟩ => ?_
  subst he
  exact ⟨_, rfl, _, _, _, [], _, [], hW', trodAll_mk1 (shut_bool Try.underlying4 _), (trodAll_cons_mk (Below.trod laid (by kernel_rfl) (of_decide_eq_true (by kernel_rfl)) k0 bel (fun x hx => hlt x (by simp [hx]))) (trodAll_cons_mk (Below.trod laid (by kernel_rfl) (of_decide_eq_true (by kernel_rfl)) k1 bel (fun x hx => hlt x (by simp [hx]))) (trodAll_cons_mk (Below.trod laid (by kernel_rfl) (of_decide_eq_true (by kernel_rfl)) k2 bel (fun x hx => hlt x (by simp [hx]))) trodAll_mk0))), rfl, bel.frame _, fun h => by cases h⟩
theorem over : Rows.extraResolvesRow.holds Try.pinned (OpenSpec.ofChange Rows.extraResolvesSpec) :=
  OpenClaim.holds_of_wide 6 Try.f6 rfl rfl rfl rfl rfl rfl rfl ⟨rfl, rfl, rfl, rfl, rfl⟩ rfl rfl rfl rfl rfl (by kernel_rfl) Try.func6 (by kernel_rfl)
    (of_decide_eq_true (by kernel_rfl)) (by unfold Func.isWrapper; first | (rw [if_pos (by decide +kernel)]; kernel_rfl) | (rw [if_neg (by decide +kernel)]; exact ⟨rfl, rfl⟩))
    (fun os started H enc _ => lifted os started H enc)
theorem proved : Rows.ExtraResolvesSaid := over
end Go.Proofs.Ytikkpmmhejjpaaa.extraResolves
namespace Go.Proofs.Ytikkpmmhejjpaaa
/-- The row, under a short name, for the claim. -/
theorem extraResolves_holds : Rows.ExtraResolvesSaid := extraResolves.proved
end Go.Proofs.Ytikkpmmhejjpaaa
