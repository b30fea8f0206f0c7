/- The row of DigestMoved: whatever the input, the law answers true, and its arguments read as they did. -/
import Derived.Test.YtobhmahlenjheaaDGH
import Derived.Test.YtobhmahlenjheaaDGP39l
import Derived.Test.YtobhmahlenjheaaOP2
import Derived.Test.YtobhmahlenjheaaRows
namespace Go.Proofs.Ytobhmahlenjheaa.digestMoved
open Go.ChangeShapes Go.WideShapes Go.ChangeAt Go.RowKit
open Go.ChangeMaps (open_string shut_string)
open Go.Proofs.YtobhmahlenjheaaM
set_option linter.unusedVariables false
set_option linter.unusedSimpArgs false
set_option maxRecDepth 100000 in
set_option maxHeartbeats 4000000 in
theorem law (w : World) (sa0 : Value) (a0 : List Gapi_Node) (Aa0 : ArgS w 5 Gapi_Node.cells sa0 a0) (a1 : ByteArray) : Calls Try.prog 13 #[sa0, .string a1] w fun e w' => e = .returned (.bool true) ∧ Below w.heap.size w w' := by
  have hF : F_law39_DigestMoved a0 a1.data.toList = some true := true_law39_DigestMoved a0 a1.data.toList
  obtain ⟨l0, o0, ow0, or0, pl0⟩ := Aa0.place
  let φ : Nat → Go.Proofs.YtobhmahlenjheaaM.Loc := fun i => match i with | _ => l0
  let h0 : AH := ⟨1, [some o0]⟩
  have hO : ∀ id o, h0.get id = some o → o.owned = false ∧ ∀ N ψ, ObjR N ψ (φ id) o w.heap[(φ id).b]? := by
    intro id o hg
    match id, hg with
    | 0, hg => cases hg; exact ⟨ow0, or0⟩
    | id + 1, hg => exact absurd hg (by show (if id + 1 < 1 then _ else none) ≠ _; rw [if_neg (by omega)]; exact fun h => by cases h)
  obtain ⟨u0, vr0, ro0⟩ := pl0 h0 φ 0 rfl rfl
  obtain ⟨m, hm⟩ : ∃ m, NF + 8 ≤ m := ⟨_, Nat.le_refl _⟩
  obtain ⟨v, h1, e, rfl, -⟩ := (W_law39_DigestMoved (K := K33) rfl rfl rfl rfl rfl rfl rfl rfl rfl rfl rfl rfl rfl rfl rfl rfl rfl rfl rfl rfl rfl m hm h0 u0 a0 ro0 a1.data.toList hF).out
  exact law_of_run (φ := φ) (args := [u0, .str a1.data.toList]) (args' := [sa0, .string a1]) K33ok.hooks (drawnOf_ok (by kernel_rfl) K33ok.tab) noGoroutineK e (Rel.args hO) (fun id o hg => (hO id o hg).1) (VRs.cons vr0 (VRs.cons (VR.strOf _ _ _) (VRs.nil _ _))) Try.func13 rfl rfl
theorem own : ownKnob Try.prog.godebug = none := by kernel_rfl
theorem laid : laidOutB Try.prog = true := by kernel_rfl
set_option maxRecDepth 100000 in
set_option maxHeartbeats 4000000 in
theorem lifted (os : Os) (started : os.Started) (H : Type) (enc : TypeId × Value → H) :
    ReturnsInHanded {} Try.checked os 13 .any (Rows.digestMovedSpec.pre6 enc Try.prog Try.f13 Rows.digestMovedRow.domain false) (Rows.digestMovedSpec.post enc Try.prog Try.f13 false true false false) := by
  refine returnsInHanded_of_change_sized (C := Try.checked) own started (by kernel_rfl) Try.func13
    (ChangeSpec.witness6 (enc := enc) (C := Try.checked) false ⟨#[], #[.slice none 0 0, .string ByteArray.empty], []⟩ 8 (by kernel_rfl) (by kernel_rfl) (by kernel_rfl) (by kernel_rfl)) ?_
  intro W base args ds gs before hval0 hW hcnd hsz0 _
  have hval : ∀ (j : Nat) t v, Try.f13.params[j]? = some t → args[j]? = some v → Value.okWide Try.prog W .any base t v := hval0
  have hW' := hW
  obtain ⟨p, q, hA0, hV, rfl, hfz, hnd⟩ := hW
  have hA : DataW.TrodAll enc Try.prog W 0 (fun _ => true) true Try.f13.params.toList args.toList ds p := hA0
  rw [Try.params13] at hA hval
  obtain ⟨v0, vs0, d0, ds0, p0, q0, hargs, rfl, rfl, h0, r0⟩ := trodAll_cons hA
  obtain ⟨v1, vs1, d1, ds1, p1, q1, rfl, rfl, rfl, h1, r1⟩ := trodAll_cons r0
  obtain ⟨rfl, rfl, rfl⟩ := trodAll_nil r1
  obtain rfl : args = #[v0, v1] := by cases args; simp_all
  obtain ⟨rfl, rfl⟩ := trodVars_none hV
  have hlt : ∀ x ∈ p0 ++ p1, x.block < W.heap.size := fun x hx => hW'.lt x (by simpa using hx)
  have k0 := h0
  obtain ⟨a0, _, A0⟩ := open_sliceK (sz := 5) Try.underlying67 (by kernel_rfl) (by omega) (hval 0 67 v0 rfl rfl) h0 Gapi_Node.cells (fun _ => True) (by
    intro nn cs y hy hl
    obtain ⟨c_0, cr_0, rfl, z_0⟩ := uncons hl
    obtain ⟨c_1, cr_1, rfl, z_1⟩ := uncons z_0
    obtain ⟨c_2, cr_2, rfl, z_2⟩ := uncons z_1
    obtain ⟨c_3, cr_3, rfl, z_3⟩ := uncons z_2
    obtain ⟨c_4, cr_4, rfl, z_4⟩ := uncons z_3
    obtain rfl := unnil z_4
    obtain ⟨xs, n1, _, _, hl1, hxl, hfs⟩ := DataW.trod_struct Try.underlying75 hy
    obtain ⟨_, g_0⟩ := field_at hfs hxl 0 _ rfl c_0 (by rw [show Try.prog.cellsOf _ = 1 from by kernel_rfl]; rfl)
    obtain ⟨x_0, rfl, y_0⟩ := leaf_str Try.underlying9 g_0
    obtain ⟨_, g_1⟩ := field_at hfs hxl 1 _ rfl c_1 (by rw [show Try.prog.cellsOf _ = 1 from by kernel_rfl]; rfl)
    obtain ⟨x_1, rfl⟩ := leaf_bool Try.underlying4 g_1
    obtain ⟨_, g_2⟩ := field_at hfs hxl 2 _ rfl c_2 (by rw [show Try.prog.cellsOf _ = 1 from by kernel_rfl]; rfl)
    obtain ⟨x_2, rfl, y_2⟩ := leaf_str Try.underlying9 g_2
    obtain ⟨_, g_3⟩ := field_at hfs hxl 3 _ rfl c_3 (by rw [show Try.prog.cellsOf _ = 1 from by kernel_rfl]; rfl)
    obtain ⟨x_3, rfl, w_3⟩ := leaf_int Try.underlying3 g_3
    obtain ⟨_, g_4⟩ := field_at hfs hxl 4 _ rfl c_4 (by rw [show Try.prog.cellsOf _ = 1 from by kernel_rfl]; rfl)
    obtain ⟨x_4, rfl, w_4⟩ := leaf_int Try.underlying3 g_4
    exact ⟨(⟨x_0, x_1, x_2, x_3, x_4⟩ : Gapi_Node), trivial, rfl, fun N φ => (VRs.cons (.str _) (VRs.cons (.bool _) (VRs.cons (.str _) (VRs.cons (.int _ _) (VRs.cons (.int _ _) (VRs.nil _ _))))))⟩)
  have k1 := h1
  obtain ⟨a1, rfl, -, -, y1⟩ := open_string Try.underlying9 (hval 1 9 v1 rfl rfl) h1
  refine (law W v0 a0 A0 a1).mono fun e W' ⟨he, bel⟩ => ?_
  subst he
  exact ⟨_, rfl, _, _, _, [], _, [], hW', trodAll_mk1 (shut_bool Try.underlying4 _), (trodAll_cons_mk (Below.trod laid (by kernel_rfl) (of_decide_eq_true (by kernel_rfl)) k0 bel (fun x hx => hlt x (by simp [hx]))) (trodAll_cons_mk (Below.trod laid (by kernel_rfl) (of_decide_eq_true (by kernel_rfl)) k1 bel (fun x hx => hlt x (by simp [hx]))) trodAll_mk0)), rfl, bel.frame _, fun h => by cases h⟩
theorem over : Rows.digestMovedRow.holds Try.pinned (OpenSpec.ofChange Rows.digestMovedSpec) :=
  OpenClaim.holds_of_wide 13 Try.f13 rfl rfl rfl rfl rfl rfl rfl ⟨rfl, rfl, rfl, rfl, rfl⟩ rfl rfl rfl rfl rfl (by kernel_rfl) Try.func13 (by kernel_rfl)
    (of_decide_eq_true (by kernel_rfl)) (by unfold Func.isWrapper; first | (rw [if_pos (by decide +kernel)]; kernel_rfl) | (rw [if_neg (by decide +kernel)]; exact ⟨rfl, rfl⟩))
    (fun os started H enc _ => lifted os started H enc)
theorem proved : Rows.DigestMovedSaid := over
end Go.Proofs.Ytobhmahlenjheaa.digestMoved
namespace Go.Proofs.Ytobhmahlenjheaa
/-- The row, under a short name, for the claim. -/
theorem digestMoved_holds : Rows.DigestMovedSaid := digestMoved.proved
end Go.Proofs.Ytobhmahlenjheaa
