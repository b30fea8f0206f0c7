/- The row of AttrOf: whatever the input, the law answers true, and its arguments read as they did. -/
import Derived.Test.YtlpiiifmidehjaaDoorAB
import Derived.Test.YtlpiiifmidehjaaDoorP21
import Derived.Test.YtlpiiifmidehjaaDoorOP2
import Derived.Test.YtlpiiifmidehjaaDoorRows
import Derived.Test.YtlpiiifmidehjaaDoorOP3v
import Derived.Test.YtlpiiifmidehjaaDoorTie
import Derived.Test.YtlpiiifmidehjaaDoorCards
import Derived.ProofKit
import Derived.OpenShut
import Derived.LaidMore
import Derived.Lay
import Derived.SevenTiedAt
import Derived.Stop.Joined
namespace Go.Proofs.YtlpiiifmidehjaaDoor.attrOf
open Go.ChangeShapes Go.WideShapes Go.ChangeAt Go.RowKit
open Go.ChangeMaps (open_string shut_string)
open Go.Proofs.YtlpiiifmidehjaaDoorM
set_option linter.unusedVariables false
set_option linter.unusedSimpArgs false
set_option maxRecDepth 100000 in
set_option maxHeartbeats 4000000 in
theorem law (w : World) (G0 : GIn w 0 ((gv0.map (encC gT0)).flatten)) (G1 : GIn w 1 ((gv1.map (encC gT1)).flatten)) (a0_0 : Int) (wa0_0 : (Lit.int .i64 a0_0).wf = true) (a0_1 : Int) (wa0_1 : (Lit.int .i64 a0_1).wf = true) (a0_2 : Int) (wa0_2 : (Lit.int .i64 a0_2).wf = true) (a0_3 : Int) (wa0_3 : (Lit.int .i64 a0_3).wf = true) (a0_4 : Int) (wa0_4 : (Lit.int .i64 a0_4).wf = true) (a0_5 : Int) (wa0_5 : (Lit.int .i64 a0_5).wf = true) (a0_6 : Int) (wa0_6 : (Lit.int .i64 a0_6).wf = true) (a0_7 : Int) (wa0_7 : (Lit.int .i64 a0_7).wf = true) (a0_8 : Int) (wa0_8 : (Lit.int .i64 a0_8).wf = true) (a0_9 : Int) (wa0_9 : (Lit.int .i64 a0_9).wf = true) (a0_10 : Int) (wa0_10 : (Lit.int .i64 a0_10).wf = true) (a0_11 : List UInt8) (a0_12 : List UInt8) (a0_13 : List UInt8) : Calls Tryd.prog 3 #[.agg ([.int .i64 a0_0, .int .i64 a0_1, .int .i64 a0_2, .int .i64 a0_3, .int .i64 a0_4, .int .i64 a0_5, .int .i64 a0_6, .int .i64 a0_7, .int .i64 a0_8, .int .i64 a0_9, .int .i64 a0_10, .string ⟨⟨a0_11⟩⟩, .string ⟨⟨a0_12⟩⟩, .string ⟨⟨a0_13⟩⟩] : List Value).toArray] w fun e w' => e = .returned (.bool true) ∧ Below w.heap.size w w' := by
  have hF : F_law21_AttrOf ((a0_0, a0_1, a0_2, a0_3, a0_4, a0_5, a0_6, a0_7, a0_8, a0_9, a0_10, a0_11, a0_12, a0_13, ())) = some (true, ()) := true_law21_AttrOf a0_0 a0_1 a0_2 a0_3 a0_4 a0_5 a0_6 a0_7 a0_8 a0_9 a0_10 a0_11 a0_12 a0_13 wa0_0 wa0_1 wa0_2 wa0_3 wa0_4 wa0_5 wa0_6 wa0_7 wa0_8 wa0_9 wa0_10
  let φ : Nat → Go.Proofs.YtlpiiifmidehjaaDoorM.Loc := fun i => match i with | 0 => ⟨0, 0, 0⟩ | _ => ⟨1, 0, 0⟩
  let h0 : AH := ⟨2, [some (.gvar 1 ((gv1.map (encC gT1)).flatten)), some (.gvar 0 ((gv0.map (encC gT0)).flatten))]⟩
  have hO : ∀ id o, h0.get id = some o → o.owned = false ∧ ∀ N ψ, ObjR N ψ (φ id) o w.heap[(φ id).b]? := by
    intro id o hg
    match id, hg with
    | 0, hg => cases hg; exact ⟨rfl, fun N ψ => G0.obj N ψ rfl⟩
    | 1, hg => cases hg; exact ⟨rfl, fun N ψ => G1.obj N ψ rfl⟩
    | id + 2, hg => exact absurd hg (by show (if id + 2 < 2 then _ else none) ≠ _; rw [if_neg (by omega)]; exact fun h => by cases h)
  let vs : Nat → Option (List AV) := fun i => match i with | 0 => some ((gv0.map (encC gT0)).flatten) | 1 => some ((gv1.map (encC gT1)).flatten) | _ => none
  have hG : GOK (gM vs) gl0 := by
    intro x hx
    simp only [gl0, List.mem_cons, List.mem_nil_iff, or_false] at hx
    rcases hx with rfl | rfl <;> exact ⟨_, rfl, all2_ofEnc rfl _⟩
  have hf : (gM vs).ok h0 := by
    refine ⟨fun id c hc => (by cases hc), fun id c hc => ?_⟩
    match id, hc with
    | 0, hc => cases hc; rfl
    | 1, hc => cases hc; rfl
    | id + 2, hc => cases hc
  obtain ⟨n, h1, e⟩ := law_V (p := (((a0_0, a0_1, a0_2, a0_3, a0_4, a0_5, a0_6, a0_7, a0_8, a0_9, a0_10, a0_11, a0_12, a0_13, ())), ())) CV7 (List.mem_cons_self ..) hF hG hf (fun _ _ hc => (by cases hc)) (EnvR.one (SVR.pv (RepV.agg (RepC.more rfl (RepC.more rfl (RepC.more rfl (RepC.more rfl (RepC.more rfl (RepC.more rfl (RepC.more rfl (RepC.more rfl (RepC.more rfl (RepC.more rfl (RepC.more rfl (RepC.more rfl (RepC.more rfl (RepC.more rfl rfl)))))))))))))))) EnvR.none)
  exact law_of_run (φ := φ) (args := [.agg [.int .i64 a0_0, .int .i64 a0_1, .int .i64 a0_2, .int .i64 a0_3, .int .i64 a0_4, .int .i64 a0_5, .int .i64 a0_6, .int .i64 a0_7, .int .i64 a0_8, .int .i64 a0_9, .int .i64 a0_10, .str a0_11, .str a0_12, .str a0_13]]) (args' := [.agg ([.int .i64 a0_0, .int .i64 a0_1, .int .i64 a0_2, .int .i64 a0_3, .int .i64 a0_4, .int .i64 a0_5, .int .i64 a0_6, .int .i64 a0_7, .int .i64 a0_8, .int .i64 a0_9, .int .i64 a0_10, .string ⟨⟨a0_11⟩⟩, .string ⟨⟨a0_12⟩⟩, .string ⟨⟨a0_13⟩⟩] : List Value).toArray]) (hooksW_ok (CV7.wok _) (CV7.ok _)) (drawnOf_ok (by kernel_rfl) (CV7.ok _).tab) noGoroutineV e (Rel.args hO) (fun id o hg => (hO id o hg).1) (VRs.cons (VR.aggOf (VRs.cons (.int _ _) (VRs.cons (.int _ _) (VRs.cons (.int _ _) (VRs.cons (.int _ _) (VRs.cons (.int _ _) (VRs.cons (.int _ _) (VRs.cons (.int _ _) (VRs.cons (.int _ _) (VRs.cons (.int _ _) (VRs.cons (.int _ _) (VRs.cons (.int _ _) (VRs.cons (.str _) (VRs.cons (.str _) (VRs.cons (.str _) (VRs.nil _ _)))))))))))))))) (VRs.nil _ _)) Tryd.func3 rfl rfl
theorem own : ownKnob Tryd.prog.godebug = none := by kernel_rfl
theorem laid : laidOutB Tryd.prog = true := by kernel_rfl
set_option maxRecDepth 100000 in
set_option maxHeartbeats 4000000 in
theorem lifted (os : Os) (started : os.Started) (H : Type) (enc : TypeId × Value → H) :
    ReturnsInHanded {} Tryd.checked os 3 .any (fun w args => (Rows.attrOfSpec.pre enc Tryd.prog Tryd.f3 Rows.attrOfRow.domain false w args ∧ laidMetH Tryd.prog Rows.attrOfRow.laid w) ∧ sizedMet enc Tryd.prog Tryd.f3 (OpenSpec.ofChange Rows.attrOfSpec) false w args) (Rows.attrOfSpec.post enc Tryd.prog Tryd.f3 false true false false) := by
  refine returnsInHanded_of_change_and (C := Tryd.checked) (X := fun w _ => laidMetH Tryd.prog Rows.attrOfRow.laid w) (fun _ _ _ hh h => h.of_heap hh) own started (by kernel_rfl) Tryd.func3
    (ChangeSpec.witness_shaped (enc := enc) (C := Tryd.checked) (os := os) (X := fun w _ => laidMetH Tryd.prog Rows.attrOfRow.laid w) false (World.laidAll Tryd.prog os Rows.attrOfRow.laid) #[.agg #[.int .i64 0, .int .i64 0, .int .i64 0, .int .i64 0, .int .i64 0, .int .i64 0, .int .i64 0, .int .i64 0, .int .i64 0, .int .i64 0, .int .i64 0, .string ByteArray.empty, .string ByteArray.empty, .string ByteArray.empty]] 8 (World.laidAll_os _ _ _) (World.shaped_of_ZipB (by kernel_rfl) (by kernel_rfl)) (by kernel_rfl) (by kernel_rfl) (by kernel_rfl)
      (by rw [MakeChecks.laidMetH_plain _ _ _ (by kernel_rfl)]; exact laidMet_laidAll _ (by kernel_rfl) (by kernel_rfl))) ?_
  intro W base args ds gs before hval0 hW hcnd hsz0 hL _
  have hval : ∀ (j : Nat) t v, Tryd.f3.params[j]? = some t → args[j]? = some v → Value.okWide Tryd.prog W .any base t v := hval0
  have hW' := hW
  obtain ⟨p, q, hA0, hV, rfl, hfz, hnd⟩ := hW
  have hA : DataW.TrodAll enc Tryd.prog W 0 (fun _ => true) true Tryd.f3.params.toList args.toList ds p := hA0
  rw [Tryd.params3] at hA hval
  obtain ⟨v0, vs0, d0, ds0, p0, q0, hargs, rfl, rfl, h0, r0⟩ := trodAll_cons hA
  obtain ⟨rfl, rfl, rfl⟩ := trodAll_nil r0
  obtain rfl : args = #[v0] := by cases args; simp_all
  obtain ⟨rfl, rfl⟩ := trodVars_none hV
  have hlt : ∀ x ∈ p0, x.block < W.heap.size := fun x hx => hW'.lt x (by simpa using hx)
  have k0 := h0
  obtain ⟨cl0, xs0, n0, rfl, hl0, hx0, hf0⟩ := open_structK Tryd.underlying23 (hval 0 23 v0 rfl rfl) h0
  replace hl0 : cl0.length = 14 := hl0.trans (by kernel_rfl)
  obtain ⟨c0_0, cr0_0, rfl, z0_0⟩ := uncons hl0
  obtain ⟨c0_1, cr0_1, rfl, z0_1⟩ := uncons z0_0
  obtain ⟨c0_2, cr0_2, rfl, z0_2⟩ := uncons z0_1
  obtain ⟨c0_3, cr0_3, rfl, z0_3⟩ := uncons z0_2
  obtain ⟨c0_4, cr0_4, rfl, z0_4⟩ := uncons z0_3
  obtain ⟨c0_5, cr0_5, rfl, z0_5⟩ := uncons z0_4
  obtain ⟨c0_6, cr0_6, rfl, z0_6⟩ := uncons z0_5
  obtain ⟨c0_7, cr0_7, rfl, z0_7⟩ := uncons z0_6
  obtain ⟨c0_8, cr0_8, rfl, z0_8⟩ := uncons z0_7
  obtain ⟨c0_9, cr0_9, rfl, z0_9⟩ := uncons z0_8
  obtain ⟨c0_10, cr0_10, rfl, z0_10⟩ := uncons z0_9
  obtain ⟨c0_11, cr0_11, rfl, z0_11⟩ := uncons z0_10
  obtain ⟨c0_12, cr0_12, rfl, z0_12⟩ := uncons z0_11
  obtain ⟨c0_13, cr0_13, rfl, z0_13⟩ := uncons z0_12
  obtain rfl := unnil z0_13
  obtain ⟨_, g0_0⟩ := field_at hf0 hx0 0 _ rfl c0_0 (by rw [show Tryd.prog.cellsOf _ = 1 from by kernel_rfl]; rfl)
  obtain ⟨a0_0, rfl, w0_0⟩ := leaf_int Tryd.underlying3 g0_0
  obtain ⟨_, g0_1⟩ := field_at hf0 hx0 1 _ rfl c0_1 (by rw [show Tryd.prog.cellsOf _ = 1 from by kernel_rfl]; rfl)
  obtain ⟨a0_1, rfl, w0_1⟩ := leaf_int Tryd.underlying3 g0_1
  obtain ⟨_, g0_2⟩ := field_at hf0 hx0 2 _ rfl c0_2 (by rw [show Tryd.prog.cellsOf _ = 1 from by kernel_rfl]; rfl)
  obtain ⟨a0_2, rfl, w0_2⟩ := leaf_int Tryd.underlying3 g0_2
  obtain ⟨_, g0_3⟩ := field_at hf0 hx0 3 _ rfl c0_3 (by rw [show Tryd.prog.cellsOf _ = 1 from by kernel_rfl]; rfl)
  obtain ⟨a0_3, rfl, w0_3⟩ := leaf_int Tryd.underlying3 g0_3
  obtain ⟨_, g0_4⟩ := field_at hf0 hx0 4 _ rfl c0_4 (by rw [show Tryd.prog.cellsOf _ = 1 from by kernel_rfl]; rfl)
  obtain ⟨a0_4, rfl, w0_4⟩ := leaf_int Tryd.underlying3 g0_4
  obtain ⟨_, g0_5⟩ := field_at hf0 hx0 5 _ rfl c0_5 (by rw [show Tryd.prog.cellsOf _ = 1 from by kernel_rfl]; rfl)
  obtain ⟨a0_5, rfl, w0_5⟩ := leaf_int Tryd.underlying3 g0_5
  obtain ⟨_, g0_6⟩ := field_at hf0 hx0 6 _ rfl c0_6 (by rw [show Tryd.prog.cellsOf _ = 1 from by kernel_rfl]; rfl)
  obtain ⟨a0_6, rfl, w0_6⟩ := leaf_int Tryd.underlying3 g0_6
  obtain ⟨_, g0_7⟩ := field_at hf0 hx0 7 _ rfl c0_7 (by rw [show Tryd.prog.cellsOf _ = 1 from by kernel_rfl]; rfl)
  obtain ⟨a0_7, rfl, w0_7⟩ := leaf_int Tryd.underlying3 g0_7
  obtain ⟨_, g0_8⟩ := field_at hf0 hx0 8 _ rfl c0_8 (by rw [show Tryd.prog.cellsOf _ = 1 from by kernel_rfl]; rfl)
  obtain ⟨a0_8, rfl, w0_8⟩ := leaf_int Tryd.underlying3 g0_8
  obtain ⟨_, g0_9⟩ := field_at hf0 hx0 9 _ rfl c0_9 (by rw [show Tryd.prog.cellsOf _ = 1 from by kernel_rfl]; rfl)
  obtain ⟨a0_9, rfl, w0_9⟩ := leaf_int Tryd.underlying3 g0_9
  obtain ⟨_, g0_10⟩ := field_at hf0 hx0 10 _ rfl c0_10 (by rw [show Tryd.prog.cellsOf _ = 1 from by kernel_rfl]; rfl)
  obtain ⟨a0_10, rfl, w0_10⟩ := leaf_int Tryd.underlying3 g0_10
  obtain ⟨_, g0_11⟩ := field_at hf0 hx0 11 _ rfl c0_11 (by rw [show Tryd.prog.cellsOf _ = 1 from by kernel_rfl]; rfl)
  obtain ⟨a0_11, rfl, y0_11⟩ := leaf_str Tryd.underlying9 g0_11
  obtain ⟨_, g0_12⟩ := field_at hf0 hx0 12 _ rfl c0_12 (by rw [show Tryd.prog.cellsOf _ = 1 from by kernel_rfl]; rfl)
  obtain ⟨a0_12, rfl, y0_12⟩ := leaf_str Tryd.underlying9 g0_12
  obtain ⟨_, g0_13⟩ := field_at hf0 hx0 13 _ rfl c0_13 (by rw [show Tryd.prog.cellsOf _ = 1 from by kernel_rfl]; rfl)
  obtain ⟨a0_13, rfl, y0_13⟩ := leaf_str Tryd.underlying9 g0_13
  rw [MakeChecks.laidMetH_plain _ _ _ (by kernel_rfl)] at hL
  obtain ⟨gps, ⟨gglaid_unicode_utf8_acceptRanges, gtlaid_unicode_utf8_acceptRanges, gclaid_unicode_utf8_acceptRanges, gflaid_unicode_utf8_acceptRanges, gplaid_unicode_utf8_acceptRanges, gqlaid_unicode_utf8_acceptRanges, hgglaid_unicode_utf8_acceptRanges, hgtlaid_unicode_utf8_acceptRanges, hgvlaid_unicode_utf8_acceptRanges, hgdlaid_unicode_utf8_acceptRanges, ⟨gglaid_unicode_utf8_first, gtlaid_unicode_utf8_first, gclaid_unicode_utf8_first, gflaid_unicode_utf8_first, gplaid_unicode_utf8_first, gqlaid_unicode_utf8_first, hgglaid_unicode_utf8_first, hgtlaid_unicode_utf8_first, hgvlaid_unicode_utf8_first, hgdlaid_unicode_utf8_first, -, -⟩, -⟩, -, -⟩ := hL
  obtain rfl := Option.some.inj ((show Tryd.prog.globalNamed "unicode/utf8.acceptRanges" = some 1 by kernel_rfl).symm.trans hgglaid_unicode_utf8_acceptRanges)
  obtain rfl := Option.some.inj ((show (Tryd.prog.globals[1]?).map (·.type) = some 108 by kernel_rfl).symm.trans hgtlaid_unicode_utf8_acceptRanges)
  have hdelaid_unicode_utf8_acceptRanges : (Rows.laid_unicode_utf8_acceptRanges : DataW Unit) = .agg (gv1.map (fun z : Int × Int × Unit => (.agg [.lit (.int .u8 z.1), .lit (.int .u8 z.2.1)] : DataW Unit))) := by kernel_rfl
  rw [hdelaid_unicode_utf8_acceptRanges] at hgdlaid_unicode_utf8_acceptRanges
  have G1 := laid_arr (f := (encC gT1)) (sz := 2) hgglaid_unicode_utf8_acceptRanges hgvlaid_unicode_utf8_acceptRanges Tryd.underlying108 (by kernel_rfl) (by kernel_rfl) (by omega) (fun z : Int × Int × Unit => (.agg [.lit (.int .u8 z.1), .lit (.int .u8 z.2.1)] : DataW Unit)) gv1 (by kernel_rfl) hgdlaid_unicode_utf8_acceptRanges (fun _ => rfl) (fun x => laid_pair Tryd.underlying107 rfl rfl rfl Tryd.underlying5 Tryd.underlying5 (by kernel_rfl) (by kernel_rfl) _ _)
  obtain rfl := Option.some.inj ((show Tryd.prog.globalNamed "unicode/utf8.first" = some 0 by kernel_rfl).symm.trans hgglaid_unicode_utf8_first)
  obtain rfl := Option.some.inj ((show (Tryd.prog.globals[0]?).map (·.type) = some 105 by kernel_rfl).symm.trans hgtlaid_unicode_utf8_first)
  have hdelaid_unicode_utf8_first : (Rows.laid_unicode_utf8_first : DataW Unit) = .agg (gv0.map (fun z : Int => (.lit (.int .u8 z) : DataW Unit))) := by kernel_rfl
  rw [hdelaid_unicode_utf8_first] at hgdlaid_unicode_utf8_first
  have G0 := laid_arr (f := (encC gT0)) (sz := 1) hgglaid_unicode_utf8_first hgvlaid_unicode_utf8_first Tryd.underlying105 (by kernel_rfl) (by kernel_rfl) (by omega) (fun z : Int => (.lit (.int .u8 z) : DataW Unit)) gv0 (by kernel_rfl) hgdlaid_unicode_utf8_first (fun _ => rfl) (laid_ints Tryd.underlying5)
  refine (law W G0 G1 a0_0 w0_0 a0_1 w0_1 a0_2 w0_2 a0_3 w0_3 a0_4 w0_4 a0_5 w0_5 a0_6 w0_6 a0_7 w0_7 a0_8 w0_8 a0_9 w0_9 a0_10 w0_10 a0_11 a0_12 a0_13).mono fun e W' ⟨he, bel⟩ => ?_
  subst he
  exact ⟨_, rfl, _, _, _, [], _, [], hW', trodAll_mk1 (shut_bool Tryd.underlying4 _), (trodAll_cons_mk (Below.trod laid (by kernel_rfl) (of_decide_eq_true (by kernel_rfl)) k0 bel (fun x hx => hlt x (by simp [hx]))) trodAll_mk0), rfl, bel.frame _, fun h => by cases h⟩
theorem over : Rows.attrOfRow.holds Tryd.pinned (OpenSpec.ofChange Rows.attrOfSpec) :=
  OpenClaim.holds_of_wide 3 Tryd.f3 rfl rfl rfl rfl rfl rfl rfl ⟨rfl, rfl, rfl, rfl, rfl⟩ rfl rfl rfl rfl rfl (by kernel_rfl) Tryd.func3 (by kernel_rfl)
    (of_decide_eq_true (by kernel_rfl)) (by unfold Func.isWrapper; first | (rw [if_pos (by decide +kernel)]; kernel_rfl) | (rw [if_neg (by decide +kernel)]; exact ⟨rfl, rfl⟩))
    (fun os started H enc _ => lifted os started H enc)
theorem proved : Rows.AttrOfSaid := over
end Go.Proofs.YtlpiiifmidehjaaDoor.attrOf
namespace Go.Proofs.YtlpiiifmidehjaaDoor
/-- The row, under a short name, for the claim. -/
theorem attrOf_holds : Rows.AttrOfCardSaid :=
  Claim7.holds_tied_plain_at .later [] [.data, .pinned] true (true, "8e9dfdd61317279a3a6ffc85376297206ea2ad48b61c22029dac58d767d99f71") false attrOf.proved (fun _ h => by cases h) (by kernel_rfl) (fun _ h => by cases h) attrOf_row_tie rfl ⟨rfl, rfl⟩ (by kernel_rfl) rfl
    (fun f fn hf hfn => by
      obtain rfl : f = 3 := Option.some.inj ((show Tryd.prog.funcNamed "montage/montagelaw21.AttrOf" = some 3 by kernel_rfl).symm.trans hf) |>.symm
      obtain rfl : fn = Tryd.f3 := (Option.some.inj (Tryd.func3.symm.trans hfn)).symm
      exact ⟨by kernel_rfl, fun j t ht => by
        rw [Tryd.params3] at ht
        have hm : t ∈ [23] := by simpa using Array.mem_of_getElem? ht
        have hall : ([23].all fun u => !Tryd.prog.wantsStandIn u) = true := by kernel_rfl
        exact (show Tryd.prog.wantsStandIn t = false by simpa using List.all_eq_true.1 hall t hm)⟩)
    (by kernel_rfl)
end Go.Proofs.YtlpiiifmidehjaaDoor
