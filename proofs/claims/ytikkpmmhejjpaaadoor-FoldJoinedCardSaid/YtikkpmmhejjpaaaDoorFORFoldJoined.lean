/- The row of FoldJoined: whatever the input, the law answers true, and its arguments read as they did. -/
import Derived.Test.YtikkpmmhejjpaaaDoorFOH
import Derived.Test.YtikkpmmhejjpaaaDoorFOP14c
import Derived.Test.YtikkpmmhejjpaaaDoorOP2
import Derived.Test.YtikkpmmhejjpaaaDoorRows
import Derived.Test.YtikkpmmhejjpaaaDoorOP3
import Derived.Test.YtikkpmmhejjpaaaDoorTie
import Derived.Test.YtikkpmmhejjpaaaDoorCards
import Derived.ProofKit
import Derived.OpenShut
import Derived.LaidMore
import Derived.Lay
import Derived.SevenTiedAt
import Derived.Stop.Joined
namespace Go.Proofs.YtikkpmmhejjpaaaDoor.foldJoined
open Go.ChangeShapes Go.WideShapes Go.ChangeAt Go.RowKit
open Go.ChangeMaps (open_string shut_string)
open Go.Proofs.YtikkpmmhejjpaaaDoorM
set_option linter.unusedVariables false
set_option linter.unusedSimpArgs false
set_option maxRecDepth 100000 in
set_option maxHeartbeats 4000000 in
theorem law (w : World) (G0 : GIn w 0 ((gv_0.map (cellI .u8)).flatten)) (G1 : GIn w 1 ((gv_1.map Gunicode_utf8_acceptRange.cells).flatten)) (a0 : ByteArray) (a1 : ByteArray) : Calls Tryd.prog 5 #[.string a0, .string a1] w fun e w' => e = .returned (.bool true) ∧ Below w.heap.size w w' := by
  have hF : F_law14_FoldJoined a0.data.toList a1.data.toList = some true := true_law14_FoldJoined a0.data.toList a1.data.toList
  let φ : Nat → Go.Proofs.YtikkpmmhejjpaaaDoorM.Loc := fun i => match i with | 0 => ⟨0, 0, 0⟩ | _ => ⟨1, 0, 0⟩
  let h0 : AH := ⟨2, [some (.gvar 1 ((gv_1.map Gunicode_utf8_acceptRange.cells).flatten)), some (.gvar 0 ((gv_0.map (cellI .u8)).flatten))]⟩
  have hO : ∀ id o, h0.get id = some o → o.owned = false ∧ ∀ N ψ, ObjR N ψ (φ id) o w.heap[(φ id).b]? := by
    intro id o hg
    match id, hg with
    | 0, hg => cases hg; exact ⟨rfl, fun N ψ => G0.obj N ψ rfl⟩
    | 1, hg => cases hg; exact ⟨rfl, fun N ψ => G1.obj N ψ rfl⟩
    | id + 2, hg => exact absurd hg (by show (if id + 2 < 2 then _ else none) ≠ _; rw [if_neg (by omega)]; exact fun h => by cases h)
  have hG : GL h0 := by
    intro p hp
    simp only [GVL, List.mem_cons, List.mem_nil_iff, or_false] at hp
    rcases hp with rfl | rfl <;> rfl
  obtain ⟨m, hm⟩ : ∃ m, NF + 8 ≤ m := ⟨_, Nat.le_refl _⟩
  obtain ⟨v, h1, e, rfl, -⟩ := (W_law14_FoldJoined (K := K8) rfl rfl rfl rfl rfl rfl rfl rfl rfl rfl rfl rfl rfl rfl rfl rfl m hm h0 hG a0.data.toList a1.data.toList hF).out
  exact law_of_run (φ := φ) (args := [.str a0.data.toList, .str a1.data.toList]) (args' := [.string a0, .string a1]) K8ok.hooks (drawnOf_ok (by kernel_rfl) K8ok.tab) noGoroutineK e (Rel.args hO) (fun id o hg => (hO id o hg).1) (VRs.cons (VR.strOf _ _ _) (VRs.cons (VR.strOf _ _ _) (VRs.nil _ _))) Tryd.func5 rfl rfl
theorem own : ownKnob Tryd.prog.godebug = none := by kernel_rfl
theorem laid : laidOutB Tryd.prog = true := by kernel_rfl
set_option maxRecDepth 100000 in
set_option maxHeartbeats 4000000 in
theorem lifted (os : Os) (started : os.Started) (H : Type) (enc : TypeId × Value → H) :
    ReturnsInHanded {} Tryd.checked os 5 .any (fun w args => (Rows.foldJoinedSpec.pre enc Tryd.prog Tryd.f5 Rows.foldJoinedRow.domain false w args ∧ laidMetH Tryd.prog Rows.foldJoinedRow.laid w) ∧ sizedMet enc Tryd.prog Tryd.f5 (OpenSpec.ofChange Rows.foldJoinedSpec) false w args) (Rows.foldJoinedSpec.post enc Tryd.prog Tryd.f5 false true false false) := by
  refine returnsInHanded_of_change_and (C := Tryd.checked) (X := fun w _ => laidMetH Tryd.prog Rows.foldJoinedRow.laid w) (fun _ _ _ hh h => h.of_heap hh) own started (by kernel_rfl) Tryd.func5
    (ChangeSpec.witness_shaped (enc := enc) (C := Tryd.checked) (os := os) (X := fun w _ => laidMetH Tryd.prog Rows.foldJoinedRow.laid w) false (World.laidAll Tryd.prog os Rows.foldJoinedRow.laid) #[.string ByteArray.empty, .string ByteArray.empty] 8 (World.laidAll_os _ _ _) (World.shaped_of_ZipB (by kernel_rfl) (by kernel_rfl)) (by kernel_rfl) (by kernel_rfl) (by kernel_rfl)
      (by rw [MakeChecks.laidMetH_plain _ _ _ (by kernel_rfl)]; exact laidMet_laidAll _ (by kernel_rfl) (by kernel_rfl))) ?_
  intro W base args ds gs before hval0 hW hcnd hsz0 hL _
  have hval : ∀ (j : Nat) t v, Tryd.f5.params[j]? = some t → args[j]? = some v → Value.okWide Tryd.prog W .any base t v := hval0
  have hW' := hW
  obtain ⟨p, q, hA0, hV, rfl, hfz, hnd⟩ := hW
  have hA : DataW.TrodAll enc Tryd.prog W 0 (fun _ => true) true Tryd.f5.params.toList args.toList ds p := hA0
  rw [Tryd.params5] at hA hval
  obtain ⟨v0, vs0, d0, ds0, p0, q0, hargs, rfl, rfl, h0, r0⟩ := trodAll_cons hA
  obtain ⟨v1, vs1, d1, ds1, p1, q1, rfl, rfl, rfl, h1, r1⟩ := trodAll_cons r0
  obtain ⟨rfl, rfl, rfl⟩ := trodAll_nil r1
  obtain rfl : args = #[v0, v1] := by cases args; simp_all
  obtain ⟨rfl, rfl⟩ := trodVars_none hV
  have hlt : ∀ x ∈ p0 ++ p1, x.block < W.heap.size := fun x hx => hW'.lt x (by simpa using hx)
  have k0 := h0
  obtain ⟨a0, rfl, -, -, y0⟩ := open_string Tryd.underlying9 (hval 0 9 v0 rfl rfl) h0
  have k1 := h1
  obtain ⟨a1, rfl, -, -, y1⟩ := open_string Tryd.underlying9 (hval 1 9 v1 rfl rfl) h1
  rw [MakeChecks.laidMetH_plain _ _ _ (by kernel_rfl)] at hL
  obtain ⟨gps, ⟨gglaid_unicode_utf8_acceptRanges, gtlaid_unicode_utf8_acceptRanges, gclaid_unicode_utf8_acceptRanges, gflaid_unicode_utf8_acceptRanges, gplaid_unicode_utf8_acceptRanges, gqlaid_unicode_utf8_acceptRanges, hgglaid_unicode_utf8_acceptRanges, hgtlaid_unicode_utf8_acceptRanges, hgvlaid_unicode_utf8_acceptRanges, hgdlaid_unicode_utf8_acceptRanges, ⟨gglaid_unicode_utf8_first, gtlaid_unicode_utf8_first, gclaid_unicode_utf8_first, gflaid_unicode_utf8_first, gplaid_unicode_utf8_first, gqlaid_unicode_utf8_first, hgglaid_unicode_utf8_first, hgtlaid_unicode_utf8_first, hgvlaid_unicode_utf8_first, hgdlaid_unicode_utf8_first, -, -⟩, -⟩, -, -⟩ := hL
  obtain rfl := Option.some.inj ((show Tryd.prog.globalNamed "unicode/utf8.acceptRanges" = some 1 by kernel_rfl).symm.trans hgglaid_unicode_utf8_acceptRanges)
  obtain rfl := Option.some.inj ((show (Tryd.prog.globals[1]?).map (·.type) = some 59 by kernel_rfl).symm.trans hgtlaid_unicode_utf8_acceptRanges)
  have hdelaid_unicode_utf8_acceptRanges : (Rows.laid_unicode_utf8_acceptRanges : DataW Unit) = .agg (gv_1.map (fun z : Gunicode_utf8_acceptRange => (.agg [.lit (.int .u8 z.xlo), .lit (.int .u8 z.xhi)] : DataW Unit))) := by kernel_rfl
  rw [hdelaid_unicode_utf8_acceptRanges] at hgdlaid_unicode_utf8_acceptRanges
  have G1 := laid_arr (f := Gunicode_utf8_acceptRange.cells) (sz := 2) hgglaid_unicode_utf8_acceptRanges hgvlaid_unicode_utf8_acceptRanges Tryd.underlying59 (by kernel_rfl) (by kernel_rfl) (by omega) (fun z : Gunicode_utf8_acceptRange => (.agg [.lit (.int .u8 z.xlo), .lit (.int .u8 z.xhi)] : DataW Unit)) gv_1 (by kernel_rfl) hgdlaid_unicode_utf8_acceptRanges (fun _ => rfl) (fun x => laid_pair Tryd.underlying58 rfl rfl rfl Tryd.underlying5 Tryd.underlying5 (by kernel_rfl) (by kernel_rfl) _ _)
  obtain rfl := Option.some.inj ((show Tryd.prog.globalNamed "unicode/utf8.first" = some 0 by kernel_rfl).symm.trans hgglaid_unicode_utf8_first)
  obtain rfl := Option.some.inj ((show (Tryd.prog.globals[0]?).map (·.type) = some 56 by kernel_rfl).symm.trans hgtlaid_unicode_utf8_first)
  have hdelaid_unicode_utf8_first : (Rows.laid_unicode_utf8_first : DataW Unit) = .agg (gv_0.map (fun z : Int => (.lit (.int .u8 z) : DataW Unit))) := by kernel_rfl
  rw [hdelaid_unicode_utf8_first] at hgdlaid_unicode_utf8_first
  have G0 := laid_arr (f := (cellI .u8)) (sz := 1) hgglaid_unicode_utf8_first hgvlaid_unicode_utf8_first Tryd.underlying56 (by kernel_rfl) (by kernel_rfl) (by omega) (fun z : Int => (.lit (.int .u8 z) : DataW Unit)) gv_0 (by kernel_rfl) hgdlaid_unicode_utf8_first (fun _ => rfl) (laid_ints Tryd.underlying5)
  refine (law W G0 G1 a0 a1).mono fun e W' ⟨he, bel⟩ => ?_
  subst he
  exact ⟨_, rfl, _, _, _, [], _, [], hW', trodAll_mk1 (shut_bool Tryd.underlying4 _), (trodAll_cons_mk (Below.trod laid (by kernel_rfl) (of_decide_eq_true (by kernel_rfl)) k0 bel (fun x hx => hlt x (by simp [hx]))) (trodAll_cons_mk (Below.trod laid (by kernel_rfl) (of_decide_eq_true (by kernel_rfl)) k1 bel (fun x hx => hlt x (by simp [hx]))) trodAll_mk0)), rfl, bel.frame _, fun h => by cases h⟩
theorem over : Rows.foldJoinedRow.holds Tryd.pinned (OpenSpec.ofChange Rows.foldJoinedSpec) :=
  OpenClaim.holds_of_wide 5 Tryd.f5 rfl rfl rfl rfl rfl rfl rfl ⟨rfl, rfl, rfl, rfl, rfl⟩ rfl rfl rfl rfl rfl (by kernel_rfl) Tryd.func5 (by kernel_rfl)
    (of_decide_eq_true (by kernel_rfl)) (by unfold Func.isWrapper; first | (rw [if_pos (by decide +kernel)]; kernel_rfl) | (rw [if_neg (by decide +kernel)]; exact ⟨rfl, rfl⟩))
    (fun os started H enc _ => lifted os started H enc)
theorem proved : Rows.FoldJoinedSaid := over
end Go.Proofs.YtikkpmmhejjpaaaDoor.foldJoined
namespace Go.Proofs.YtikkpmmhejjpaaaDoor
/-- The row, under a short name, for the claim. -/
theorem foldJoined_holds : Rows.FoldJoinedCardSaid :=
  Claim7.holds_tied_plain_at .later [] [.data, .pinned] true (true, "54088c6192c67e0810769ab96da3d302440f82b6ce62b3ea0e7dfae8651dd600") false foldJoined.proved (fun _ h => by cases h) (by kernel_rfl) (fun _ h => by cases h) foldJoined_row_tie rfl ⟨rfl, rfl⟩ (by kernel_rfl) rfl
    (fun f fn hf hfn => by
      obtain rfl : f = 5 := Option.some.inj ((show Tryd.prog.funcNamed "montage/montagelaw14.FoldJoined" = some 5 by kernel_rfl).symm.trans hf) |>.symm
      obtain rfl : fn = Tryd.f5 := (Option.some.inj (Tryd.func5.symm.trans hfn)).symm
      exact ⟨by kernel_rfl, fun j t ht => by
        rw [Tryd.params5] at ht
        have hm : t ∈ [9, 9] := by simpa using Array.mem_of_getElem? ht
        have hall : ([9, 9].all fun u => !Tryd.prog.wantsStandIn u) = true := by kernel_rfl
        exact (show Tryd.prog.wantsStandIn t = false by simpa using List.all_eq_true.1 hall t hm)⟩)
    (by kernel_rfl)
end Go.Proofs.YtikkpmmhejjpaaaDoor
