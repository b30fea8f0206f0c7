/- The row of UsageSums: whatever the input, the law answers true, and its arguments read as they did. -/
import Derived.Test.YtglcbikbmobdpaaDoorRW
import Derived.Test.YtglcbikbmobdpaaDoorP45h
import Derived.Test.YtglcbikbmobdpaaDoorVC
import Derived.Test.YtglcbikbmobdpaaDoorRows
import Derived.Test.YtglcbikbmobdpaaDoorTie
import Derived.Test.YtglcbikbmobdpaaDoorCards
import Derived.ProofKit
import Derived.OpenShut
import Derived.LaidMore
import Derived.Lay
import Derived.SevenTiedAt
import Derived.Stop.Joined
namespace Go.Proofs.YtglcbikbmobdpaaDoor.usageSums
open Go.ChangeShapes Go.WideShapes Go.ChangeAt Go.RowKit
open Go.ChangeMaps (open_string shut_string)
open Go.Proofs.YtglcbikbmobdpaaDoorM
set_option linter.unusedVariables false
set_option linter.unusedSimpArgs false
theorem own : ownKnob Tryd.prog.godebug = none := by kernel_rfl
theorem laid : laidOutB Tryd.prog = true := by kernel_rfl
set_option maxRecDepth 100000 in
set_option maxHeartbeats 4000000 in
theorem lifted (os : Os) (started : os.Started) (H : Type) (enc : TypeId × Value → H) :
    ReturnsInHanded {} Tryd.checked os 6 .any (fun w args => (Rows.usageSumsSpec.pre enc Tryd.prog Tryd.f6 Rows.usageSumsRow.domain false w args ∧ laidMetH Tryd.prog Rows.usageSumsRow.laid w) ∧ sizedMet enc Tryd.prog Tryd.f6 (OpenSpec.ofChange Rows.usageSumsSpec) false w args) (Rows.usageSumsSpec.post enc Tryd.prog Tryd.f6 false true false false) := by
  refine returnsInHanded_of_change_and (C := Tryd.checked) (X := fun w _ => laidMetH Tryd.prog Rows.usageSumsRow.laid w) (fun _ _ _ hh h => h.of_heap hh) own started (by kernel_rfl) Tryd.func6
    (ChangeSpec.witness_shaped (enc := enc) (C := Tryd.checked) (os := os) (X := fun w _ => laidMetH Tryd.prog Rows.usageSumsRow.laid w) false (World.laidAll Tryd.prog os Rows.usageSumsRow.laid) #[.slice none 0 0] 8 (World.laidAll_os _ _ _) (World.shaped_of_ZipB (by kernel_rfl) (by kernel_rfl)) (by kernel_rfl) (by kernel_rfl) (by kernel_rfl)
      (by rw [MakeChecks.laidMetH_plain _ _ _ (by kernel_rfl)]; exact laidMet_laidAll _ (by kernel_rfl) (by kernel_rfl))) ?_
  intro W base args ds gs before hval0 hW hcnd hsz0 hL _
  have hval : ∀ (j : Nat) t v, Tryd.f6.params[j]? = some t → args[j]? = some v → Value.okWide Tryd.prog W .any base t v := hval0
  have hW' := hW
  obtain ⟨p, q, hA0, hV, rfl, hfz, hnd⟩ := hW
  have hA : DataW.TrodAll enc Tryd.prog W 0 (fun _ => true) true Tryd.f6.params.toList args.toList ds p := hA0
  rw [Tryd.params6] at hA hval
  obtain ⟨v0, vs0, d0, ds0, p0, q0, hargs, rfl, rfl, h0, r0⟩ := trodAll_cons hA
  obtain ⟨rfl, rfl, rfl⟩ := trodAll_nil r0
  obtain rfl : args = #[v0] := by cases args; simp_all
  obtain ⟨rfl, rfl⟩ := trodVars_none hV
  have hlt : ∀ x ∈ p0, x.block < W.heap.size := fun x hx => hW'.lt x (by simpa using hx)
  obtain ⟨a0, A0, g0⟩ := open_arg (T := (.lst (.cons .str (.cons .bool (.cons .str (.cons (.int .i64) (.cons (.int .i64) .nil))))))) 9 (by kernel_rfl) (hval 0 34 v0 rfl rfl) h0
  rw [MakeChecks.laidMetH_plain _ _ _ (by kernel_rfl)] at hL
  obtain ⟨gps, ⟨gglaid_unicode_utf8_acceptRanges, gtlaid_unicode_utf8_acceptRanges, gclaid_unicode_utf8_acceptRanges, gflaid_unicode_utf8_acceptRanges, gplaid_unicode_utf8_acceptRanges, gqlaid_unicode_utf8_acceptRanges, hgglaid_unicode_utf8_acceptRanges, hgtlaid_unicode_utf8_acceptRanges, hgvlaid_unicode_utf8_acceptRanges, hgdlaid_unicode_utf8_acceptRanges, ⟨gglaid_unicode_utf8_first, gtlaid_unicode_utf8_first, gclaid_unicode_utf8_first, gflaid_unicode_utf8_first, gplaid_unicode_utf8_first, gqlaid_unicode_utf8_first, hgglaid_unicode_utf8_first, hgtlaid_unicode_utf8_first, hgvlaid_unicode_utf8_first, hgdlaid_unicode_utf8_first, -, -⟩, -⟩, -, -⟩ := hL
  obtain rfl := Option.some.inj ((show Tryd.prog.globalNamed "unicode/utf8.acceptRanges" = some 1 by kernel_rfl).symm.trans hgglaid_unicode_utf8_acceptRanges)
  obtain rfl := Option.some.inj ((show (Tryd.prog.globals[1]?).map (·.type) = some 129 by kernel_rfl).symm.trans hgtlaid_unicode_utf8_acceptRanges)
  have hdelaid_unicode_utf8_acceptRanges : (Rows.laid_unicode_utf8_acceptRanges : DataW Unit) = .agg (gv1.map (fun z : Int × Int × Unit => (.agg [.lit (.int .u8 z.1), .lit (.int .u8 z.2.1)] : DataW Unit))) := by kernel_rfl
  rw [hdelaid_unicode_utf8_acceptRanges] at hgdlaid_unicode_utf8_acceptRanges
  have G1 := laid_arr (f := (encC gT1)) (sz := 2) hgglaid_unicode_utf8_acceptRanges hgvlaid_unicode_utf8_acceptRanges Tryd.underlying129 (by kernel_rfl) (by kernel_rfl) (by omega) (fun z : Int × Int × Unit => (.agg [.lit (.int .u8 z.1), .lit (.int .u8 z.2.1)] : DataW Unit)) gv1 (by kernel_rfl) hgdlaid_unicode_utf8_acceptRanges (fun _ => rfl) (fun x => laid_pair Tryd.underlying128 rfl rfl rfl Tryd.underlying5 Tryd.underlying5 (by kernel_rfl) (by kernel_rfl) _ _)
  obtain rfl := Option.some.inj ((show Tryd.prog.globalNamed "unicode/utf8.first" = some 0 by kernel_rfl).symm.trans hgglaid_unicode_utf8_first)
  obtain rfl := Option.some.inj ((show (Tryd.prog.globals[0]?).map (·.type) = some 126 by kernel_rfl).symm.trans hgtlaid_unicode_utf8_first)
  have hdelaid_unicode_utf8_first : (Rows.laid_unicode_utf8_first : DataW Unit) = .agg (gv0.map (fun z : Int => (.lit (.int .u8 z) : DataW Unit))) := by kernel_rfl
  rw [hdelaid_unicode_utf8_first] at hgdlaid_unicode_utf8_first
  have G0 := laid_arr (f := (encC gT0)) (sz := 1) hgglaid_unicode_utf8_first hgvlaid_unicode_utf8_first Tryd.underlying126 (by kernel_rfl) (by kernel_rfl) (by omega) (fun z : Int => (.lit (.int .u8 z) : DataW Unit)) gv0 (by kernel_rfl) hgdlaid_unicode_utf8_first (fun _ => rfl) (laid_ints Tryd.underlying5)
  have hF : F_law45_UsageSums a0 = some (true, ()) := true_law45_UsageSums a0
  have hgh : ∀ id o, hg0.get id = some o → ∃ c, o = .gvar id c ∧ GIn W id c := by
    intro id o hg
    match id, hg with
    | 0, hg => cases hg; exact ⟨_, rfl, G0⟩
    | 1, hg => cases hg; exact ⟨_, rfl, G1⟩
    | id + 2, hg => exact absurd hg (by show (if id + 2 < 2 then _ else none) ≠ _; rw [if_neg (by omega)]; exact fun h => by cases h)
  refine (law_args (p := (a0, ())) (vs := [v0]) CV77 (List.mem_cons_self ..) hF hg0 hgl0 hgh ⟨A0, rfl⟩ mixedV noGoroutineV Tryd.func6 rfl rfl).mono fun e W' ⟨he, bel⟩ => ?_
  subst he
  exact ⟨_, rfl, _, _, _, [], _, [], hW', trodAll_mk1 (shut_bool Tryd.underlying4 _), (trodAll_cons_mk (Below.trod laid (by kernel_rfl) (of_decide_eq_true (by kernel_rfl)) h0 bel (fun x hx => hlt x (by simp [hx]))) trodAll_mk0), rfl, bel.frame _, fun h => by cases h⟩
theorem over : Rows.usageSumsRow.holds Tryd.pinned (OpenSpec.ofChange Rows.usageSumsSpec) :=
  OpenClaim.holds_of_wide 6 Tryd.f6 rfl rfl rfl rfl rfl rfl rfl ⟨rfl, rfl, rfl, rfl, rfl⟩ rfl rfl rfl rfl rfl (by kernel_rfl) Tryd.func6 (by kernel_rfl)
    (of_decide_eq_true (by kernel_rfl)) (by unfold Func.isWrapper; first | (rw [if_pos (by decide +kernel)]; kernel_rfl) | (rw [if_neg (by decide +kernel)]; exact ⟨rfl, rfl⟩))
    (fun os started H enc _ => lifted os started H enc)
theorem proved : Rows.UsageSumsSaid := over
end Go.Proofs.YtglcbikbmobdpaaDoor.usageSums
namespace Go.Proofs.YtglcbikbmobdpaaDoor
/-- The row, under a short name, for the claim. -/
theorem usageSums_holds : Rows.UsageSumsCardSaid :=
  Claim7.holds_tied_plain_at .later [] [.data, .pinned] true (true, "c5142c18505f56351920fc7483a2f5755cb830c7bd97148312eeecf07cc787d7") false usageSums.proved (fun _ h => by cases h) (by kernel_rfl) (fun _ h => by cases h) usageSums_row_tie rfl ⟨rfl, rfl⟩ (by kernel_rfl) rfl
    (fun f fn hf hfn => by
      obtain rfl : f = 6 := Option.some.inj ((show Tryd.prog.funcNamed "montage/montagelaw45.UsageSums" = some 6 by kernel_rfl).symm.trans hf) |>.symm
      obtain rfl : fn = Tryd.f6 := (Option.some.inj (Tryd.func6.symm.trans hfn)).symm
      exact ⟨by kernel_rfl, fun j t ht => by
        rw [Tryd.params6] at ht
        have hm : t ∈ [34] := by simpa using Array.mem_of_getElem? ht
        have hall : ([34].all fun u => !Tryd.prog.wantsStandIn u) = true := by kernel_rfl
        exact (show Tryd.prog.wantsStandIn t = false by simpa using List.all_eq_true.1 hall t hm)⟩)
    (by kernel_rfl)
end Go.Proofs.YtglcbikbmobdpaaDoor
