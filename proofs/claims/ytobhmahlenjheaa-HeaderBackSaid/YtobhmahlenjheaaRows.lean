/-
  No cell of these rows narrows 'for every input' (looked for: loops, veiled, ifaces, maps, wideKeys, modest, calm, conditions, laid).
  DERIVED. THE GIVEN ROWS OF THIS SEAT. 11 by the template 'for every input the law returns true; each argument reads behind the call as it read before'; 0 by the template 'total and deterministic' (their statements: YtobhmahlenjheaaTotals.lean).
  GIVEN WITH THE SEED: the statements are not yours to turn. If you find one false, say at which input.
  Laid BY PROGRAM, IN A SANDBOX (cutbox-rows.mjs): the forced cells as the released guide's own fill.sh prints them over the translation 4bd811cffbd8fc3d… (all of the seat's roots in one cut). By AI agents, Wed Nov 11 2026. No macro, syntax, notation, axiom, sorry.
-/
import Derived.Test.YtobhmahlenjheaaChecked
import GoSem.Claim
import GoSem.ClaimJoined
import GoSem.ClaimMapViews
import Derived.JoinedTies
import Derived.KernelRfl
namespace Go.Proofs.Ytobhmahlenjheaa
/- THE CELL 'sum', in the pinned program and in every row, IS THE sha256 OF THE DUMP (.gsa) THAT YtobhmahlenjheaaProg.lean LOADS. Nothing in Lean hashes anything: it is a label: what it is worth is what the hold of that sum in a sandbox is worth. -/
noncomputable def Try.pinned : Pinned := { name := "ytobhmahlenjheaa", sum := "4bd811cffbd8fc3d8170bfa4dc69805fb7b04c985e679c55d510575341b10e99", checked := Try.checked }
namespace Rows
def none {H : Type} : Left H := { results := [], args := [] }

/-- 'montagelaw04.ShaKeys': WHATEVER THE INPUT: true; the input reads as it did. -/
def shaKeysSpec : ChangeSpec := { name := "shaKeys", fn := fun _ => fun
  | [d] => { results := [.lit (.bool true)], args := [d] }
  | _ => none }
def shaKeysRow : OpenClaim := { program := "ytobhmahlenjheaa", sum := "4bd811cffbd8fc3d8170bfa4dc69805fb7b04c985e679c55d510575341b10e99", func := "montage/montagelaw04.ShaKeys", spec := "shaKeys", inPlace := ["internal/abi.NoEscape", "internal/bytealg.MakeNoZero"], apart := false }
def ShaKeysSaid : Prop := shaKeysRow.holds Try.pinned (OpenSpec.ofChange shaKeysSpec)

/-- ITS FALSE NEIGHBOUR: 'it returns false'. Refute it at one input. -/
def shaKeysWrong : ChangeSpec := { name := "shaKeys", fn := fun _ => fun
  | [d] => { results := [.lit (.bool false)], args := [d] }
  | _ => none }
def ShaKeysWrongFalsely : Prop := shaKeysRow.holds Try.pinned (OpenSpec.ofChange shaKeysWrong)

/-- 'montagelaw04.ShaPadded': WHATEVER THE INPUT: true; the input reads as it did. -/
def shaPaddedSpec : ChangeSpec := { name := "shaPadded", fn := fun _ => fun
  | [d1, d2] => { results := [.lit (.bool true)], args := [d1, d2] }
  | _ => none }
def shaPaddedRow : OpenClaim := { program := "ytobhmahlenjheaa", sum := "4bd811cffbd8fc3d8170bfa4dc69805fb7b04c985e679c55d510575341b10e99", func := "montage/montagelaw04.ShaPadded", spec := "shaPadded", inPlace := ["internal/abi.NoEscape", "internal/bytealg.MakeNoZero"], apart := false }
def ShaPaddedSaid : Prop := shaPaddedRow.holds Try.pinned (OpenSpec.ofChange shaPaddedSpec)

/-- ITS FALSE NEIGHBOUR: 'it returns false'. Refute it at one input. -/
def shaPaddedWrong : ChangeSpec := { name := "shaPadded", fn := fun _ => fun
  | [d1, d2] => { results := [.lit (.bool false)], args := [d1, d2] }
  | _ => none }
def ShaPaddedWrongFalsely : Prop := shaPaddedRow.holds Try.pinned (OpenSpec.ofChange shaPaddedWrong)

/-- 'montagelaw18.HeaderAny': WHATEVER THE INPUT: true; the input reads as it did. -/
def headerAnySpec : ChangeSpec := { name := "headerAny", fn := fun _ => fun
  | [d1, d2] => { results := [.lit (.bool true)], args := [d1, d2] }
  | _ => none }
def headerAnyRow : OpenClaim := { program := "ytobhmahlenjheaa", sum := "4bd811cffbd8fc3d8170bfa4dc69805fb7b04c985e679c55d510575341b10e99", func := "montage/montagelaw18.HeaderAny", spec := "headerAny", inPlace := ["internal/abi.NoEscape"], apart := false }
def HeaderAnySaid : Prop := headerAnyRow.holds Try.pinned (OpenSpec.ofChange headerAnySpec)

/-- ITS FALSE NEIGHBOUR: 'it returns false'. Refute it at one input. -/
def headerAnyWrong : ChangeSpec := { name := "headerAny", fn := fun _ => fun
  | [d1, d2] => { results := [.lit (.bool false)], args := [d1, d2] }
  | _ => none }
def HeaderAnyWrongFalsely : Prop := headerAnyRow.holds Try.pinned (OpenSpec.ofChange headerAnyWrong)

/-- 'montagelaw18.HeaderPuts': WHATEVER THE INPUT: true; the input reads as it did. -/
def headerPutsSpec : ChangeSpec := { name := "headerPuts", fn := fun _ => fun
  | [d1, d2] => { results := [.lit (.bool true)], args := [d1, d2] }
  | _ => none }
def headerPutsRow : OpenClaim := { program := "ytobhmahlenjheaa", sum := "4bd811cffbd8fc3d8170bfa4dc69805fb7b04c985e679c55d510575341b10e99", func := "montage/montagelaw18.HeaderPuts", spec := "headerPuts", inPlace := ["internal/abi.NoEscape"], apart := false }
def HeaderPutsSaid : Prop := headerPutsRow.holds Try.pinned (OpenSpec.ofChange headerPutsSpec)

/-- ITS FALSE NEIGHBOUR: 'it returns false'. Refute it at one input. -/
def headerPutsWrong : ChangeSpec := { name := "headerPuts", fn := fun _ => fun
  | [d1, d2] => { results := [.lit (.bool false)], args := [d1, d2] }
  | _ => none }
def HeaderPutsWrongFalsely : Prop := headerPutsRow.holds Try.pinned (OpenSpec.ofChange headerPutsWrong)

/-- 'montagelaw18.HeaderBack': WHATEVER THE INPUT: true; the input reads as it did. -/
def headerBackSpec : ChangeSpec := { name := "headerBack", fn := fun _ => fun
  | [d1, d2] => { results := [.lit (.bool true)], args := [d1, d2] }
  | _ => none }
def headerBackRow : OpenClaim := { program := "ytobhmahlenjheaa", sum := "4bd811cffbd8fc3d8170bfa4dc69805fb7b04c985e679c55d510575341b10e99", func := "montage/montagelaw18.HeaderBack", spec := "headerBack", inPlace := ["internal/abi.NoEscape"], apart := false }
def HeaderBackSaid : Prop := headerBackRow.holds Try.pinned (OpenSpec.ofChange headerBackSpec)

/-- ITS FALSE NEIGHBOUR: 'it returns false'. Refute it at one input. -/
def headerBackWrong : ChangeSpec := { name := "headerBack", fn := fun _ => fun
  | [d1, d2] => { results := [.lit (.bool false)], args := [d1, d2] }
  | _ => none }
def HeaderBackWrongFalsely : Prop := headerBackRow.holds Try.pinned (OpenSpec.ofChange headerBackWrong)

/-- 'montagelaw28.LinkGroups': WHATEVER THE INPUT: true; the input reads as it did. -/
def linkGroupsSpec : ChangeSpec := { name := "linkGroups", fn := fun _ => fun
  | [d] => { results := [.lit (.bool true)], args := [d] }
  | _ => none }
def linkGroupsRow : OpenClaim := { program := "ytobhmahlenjheaa", sum := "4bd811cffbd8fc3d8170bfa4dc69805fb7b04c985e679c55d510575341b10e99", func := "montage/montagelaw28.LinkGroups", spec := "linkGroups", inPlace := ["internal/abi.NoEscape", "internal/bytealg.MakeNoZero"], apart := false }
def LinkGroupsSaid : Prop := linkGroupsRow.holds Try.pinned (OpenSpec.ofChange linkGroupsSpec)

/-- ITS FALSE NEIGHBOUR: 'it returns false'. Refute it at one input. -/
def linkGroupsWrong : ChangeSpec := { name := "linkGroups", fn := fun _ => fun
  | [d] => { results := [.lit (.bool false)], args := [d] }
  | _ => none }
def LinkGroupsWrongFalsely : Prop := linkGroupsRow.holds Try.pinned (OpenSpec.ofChange linkGroupsWrong)

/-- 'montagelaw28.LinkAdds': WHATEVER THE INPUT: true; the input reads as it did. -/
def linkAddsSpec : ChangeSpec := { name := "linkAdds", fn := fun _ => fun
  | [d1, d2] => { results := [.lit (.bool true)], args := [d1, d2] }
  | _ => none }
def linkAddsRow : OpenClaim := { program := "ytobhmahlenjheaa", sum := "4bd811cffbd8fc3d8170bfa4dc69805fb7b04c985e679c55d510575341b10e99", func := "montage/montagelaw28.LinkAdds", spec := "linkAdds", inPlace := ["internal/abi.NoEscape", "internal/bytealg.MakeNoZero"], apart := false }
def LinkAddsSaid : Prop := linkAddsRow.holds Try.pinned (OpenSpec.ofChange linkAddsSpec)

/-- ITS FALSE NEIGHBOUR: 'it returns false'. Refute it at one input. -/
def linkAddsWrong : ChangeSpec := { name := "linkAdds", fn := fun _ => fun
  | [d1, d2] => { results := [.lit (.bool false)], args := [d1, d2] }
  | _ => none }
def LinkAddsWrongFalsely : Prop := linkAddsRow.holds Try.pinned (OpenSpec.ofChange linkAddsWrong)

/-- 'montagelaw28.LinkNone': WHATEVER THE INPUT: true; the input reads as it did. -/
def linkNoneSpec : ChangeSpec := { name := "linkNone", fn := fun _ => fun
  | [d1, d2] => { results := [.lit (.bool true)], args := [d1, d2] }
  | _ => none }
def linkNoneRow : OpenClaim := { program := "ytobhmahlenjheaa", sum := "4bd811cffbd8fc3d8170bfa4dc69805fb7b04c985e679c55d510575341b10e99", func := "montage/montagelaw28.LinkNone", spec := "linkNone", inPlace := ["internal/abi.NoEscape", "internal/bytealg.MakeNoZero"], apart := false }
def LinkNoneSaid : Prop := linkNoneRow.holds Try.pinned (OpenSpec.ofChange linkNoneSpec)

/-- ITS FALSE NEIGHBOUR: 'it returns false'. Refute it at one input. -/
def linkNoneWrong : ChangeSpec := { name := "linkNone", fn := fun _ => fun
  | [d1, d2] => { results := [.lit (.bool false)], args := [d1, d2] }
  | _ => none }
def LinkNoneWrongFalsely : Prop := linkNoneRow.holds Try.pinned (OpenSpec.ofChange linkNoneWrong)

/-- 'montagelaw39.DigestLayers': WHATEVER THE INPUT: true; the input reads as it did. -/
def digestLayersSpec : ChangeSpec := { name := "digestLayers", fn := fun _ => fun
  | [d] => { results := [.lit (.bool true)], args := [d] }
  | _ => none }
def digestLayersRow : OpenClaim := { program := "ytobhmahlenjheaa", sum := "4bd811cffbd8fc3d8170bfa4dc69805fb7b04c985e679c55d510575341b10e99", func := "montage/montagelaw39.DigestLayers", spec := "digestLayers", inPlace := ["internal/abi.NoEscape", "internal/bytealg.MakeNoZero"], apart := false }
def DigestLayersSaid : Prop := digestLayersRow.holds Try.pinned (OpenSpec.ofChange digestLayersSpec)

/-- ITS FALSE NEIGHBOUR: 'it returns false'. Refute it at one input. -/
def digestLayersWrong : ChangeSpec := { name := "digestLayers", fn := fun _ => fun
  | [d] => { results := [.lit (.bool false)], args := [d] }
  | _ => none }
def DigestLayersWrongFalsely : Prop := digestLayersRow.holds Try.pinned (OpenSpec.ofChange digestLayersWrong)

/-- 'montagelaw39.DigestTrees': WHATEVER THE INPUT: true; the input reads as it did. -/
def digestTreesSpec : ChangeSpec := { name := "digestTrees", fn := fun _ => fun
  | [d1, d2] => { results := [.lit (.bool true)], args := [d1, d2] }
  | _ => none }
def digestTreesRow : OpenClaim := { program := "ytobhmahlenjheaa", sum := "4bd811cffbd8fc3d8170bfa4dc69805fb7b04c985e679c55d510575341b10e99", func := "montage/montagelaw39.DigestTrees", spec := "digestTrees", inPlace := ["internal/abi.NoEscape", "internal/bytealg.MakeNoZero"], apart := false }
def DigestTreesSaid : Prop := digestTreesRow.holds Try.pinned (OpenSpec.ofChange digestTreesSpec)

/-- ITS FALSE NEIGHBOUR: 'it returns false'. Refute it at one input. -/
def digestTreesWrong : ChangeSpec := { name := "digestTrees", fn := fun _ => fun
  | [d1, d2] => { results := [.lit (.bool false)], args := [d1, d2] }
  | _ => none }
def DigestTreesWrongFalsely : Prop := digestTreesRow.holds Try.pinned (OpenSpec.ofChange digestTreesWrong)

/-- 'montagelaw39.DigestMoved': WHATEVER THE INPUT: true; the input reads as it did. -/
def digestMovedSpec : ChangeSpec := { name := "digestMoved", fn := fun _ => fun
  | [d1, d2] => { results := [.lit (.bool true)], args := [d1, d2] }
  | _ => none }
def digestMovedRow : OpenClaim := { program := "ytobhmahlenjheaa", sum := "4bd811cffbd8fc3d8170bfa4dc69805fb7b04c985e679c55d510575341b10e99", func := "montage/montagelaw39.DigestMoved", spec := "digestMoved", inPlace := ["internal/abi.NoEscape", "internal/bytealg.MakeNoZero"], apart := false }
def DigestMovedSaid : Prop := digestMovedRow.holds Try.pinned (OpenSpec.ofChange digestMovedSpec)

/-- ITS FALSE NEIGHBOUR: 'it returns false'. Refute it at one input. -/
def digestMovedWrong : ChangeSpec := { name := "digestMoved", fn := fun _ => fun
  | [d1, d2] => { results := [.lit (.bool false)], args := [d1, d2] }
  | _ => none }
def DigestMovedWrongFalsely : Prop := digestMovedRow.holds Try.pinned (OpenSpec.ofChange digestMovedWrong)

/- THE SECOND FORM. 'bulk': how many values and letters a reading holds, each counted each time it is reached (what is shared counts as often as it is met; a slice's spare places count too). A statement '..UptoSaid' is the law's where the arguments, and the package variables that the reading takes, are together of bulk at most 1048576: NARROWER than '..Said'. Prove '..Said' where nothing that the law and all that it calls make is longer than what came in: it says more and counts as full. Else prove '..UptoSaid'. A law counts once. -/
mutual
def uptoBulk {H : Type} : DataW H → Nat
  | .lit (.string bytes) => bytes.length + 1
  | .lit _ => 1
  | .nil => 1
  | .ptr d => uptoBulk d + 1
  | .slice elems spare => uptoBulkAll elems + uptoBulkAll spare + 1
  | .agg parts => uptoBulkAll parts + 1
  | .iface _ d => uptoBulk d + 1
  | .map entries => uptoBulkEntries entries + 1
  | .held _ => 1
def uptoBulkAll {H : Type} : List (DataW H) → Nat
  | [] => 0
  | d :: r => uptoBulk d + uptoBulkAll r
def uptoBulkEntries {H : Type} : List (Lit × DataW H) → Nat
  | [] => 0
  | x :: r => uptoBulkEntry x + uptoBulkEntries r
def uptoBulkEntry {H : Type} : Lit × DataW H → Nat
  | (.string bytes, d) => bytes.length + uptoBulk d + 1
  | (_, d) => uptoBulk d + 1
 end
def uptoSmall : (H : Type) → List (DataW H) → Bool := fun _ ds => decide (uptoBulkAll ds ≤ 1048576)
def OpenSpec.upto (s : _root_.Go.ChangeSpec) : _root_.Go.OpenSpec := { _root_.Go.OpenSpec.ofChange s with cond := some uptoSmall }

/-- 'montagelaw04.ShaKeys', WHERE WHAT IT READS IS OF BULK AT MOST 1048576: true; the input reads as it did. -/
def shaKeysUptoRow : OpenClaim := { program := "ytobhmahlenjheaa", sum := "4bd811cffbd8fc3d8170bfa4dc69805fb7b04c985e679c55d510575341b10e99", func := "montage/montagelaw04.ShaKeys", spec := "shaKeys", inPlace := ["internal/abi.NoEscape", "internal/bytealg.MakeNoZero"], apart := false, narrowed := true }
def ShaKeysUptoSaid : Prop := shaKeysUptoRow.holds Try.pinned (OpenSpec.upto shaKeysSpec)

/-- 'montagelaw04.ShaPadded', WHERE WHAT IT READS IS OF BULK AT MOST 1048576: true; the input reads as it did. -/
def shaPaddedUptoRow : OpenClaim := { program := "ytobhmahlenjheaa", sum := "4bd811cffbd8fc3d8170bfa4dc69805fb7b04c985e679c55d510575341b10e99", func := "montage/montagelaw04.ShaPadded", spec := "shaPadded", inPlace := ["internal/abi.NoEscape", "internal/bytealg.MakeNoZero"], apart := false, narrowed := true }
def ShaPaddedUptoSaid : Prop := shaPaddedUptoRow.holds Try.pinned (OpenSpec.upto shaPaddedSpec)

/-- 'montagelaw18.HeaderAny', WHERE WHAT IT READS IS OF BULK AT MOST 1048576: true; the input reads as it did. -/
def headerAnyUptoRow : OpenClaim := { program := "ytobhmahlenjheaa", sum := "4bd811cffbd8fc3d8170bfa4dc69805fb7b04c985e679c55d510575341b10e99", func := "montage/montagelaw18.HeaderAny", spec := "headerAny", inPlace := ["internal/abi.NoEscape"], apart := false, narrowed := true }
def HeaderAnyUptoSaid : Prop := headerAnyUptoRow.holds Try.pinned (OpenSpec.upto headerAnySpec)

/-- 'montagelaw18.HeaderPuts', WHERE WHAT IT READS IS OF BULK AT MOST 1048576: true; the input reads as it did. -/
def headerPutsUptoRow : OpenClaim := { program := "ytobhmahlenjheaa", sum := "4bd811cffbd8fc3d8170bfa4dc69805fb7b04c985e679c55d510575341b10e99", func := "montage/montagelaw18.HeaderPuts", spec := "headerPuts", inPlace := ["internal/abi.NoEscape"], apart := false, narrowed := true }
def HeaderPutsUptoSaid : Prop := headerPutsUptoRow.holds Try.pinned (OpenSpec.upto headerPutsSpec)

/-- 'montagelaw18.HeaderBack', WHERE WHAT IT READS IS OF BULK AT MOST 1048576: true; the input reads as it did. -/
def headerBackUptoRow : OpenClaim := { program := "ytobhmahlenjheaa", sum := "4bd811cffbd8fc3d8170bfa4dc69805fb7b04c985e679c55d510575341b10e99", func := "montage/montagelaw18.HeaderBack", spec := "headerBack", inPlace := ["internal/abi.NoEscape"], apart := false, narrowed := true }
def HeaderBackUptoSaid : Prop := headerBackUptoRow.holds Try.pinned (OpenSpec.upto headerBackSpec)

/-- 'montagelaw28.LinkGroups', WHERE WHAT IT READS IS OF BULK AT MOST 1048576: true; the input reads as it did. -/
def linkGroupsUptoRow : OpenClaim := { program := "ytobhmahlenjheaa", sum := "4bd811cffbd8fc3d8170bfa4dc69805fb7b04c985e679c55d510575341b10e99", func := "montage/montagelaw28.LinkGroups", spec := "linkGroups", inPlace := ["internal/abi.NoEscape", "internal/bytealg.MakeNoZero"], apart := false, narrowed := true }
def LinkGroupsUptoSaid : Prop := linkGroupsUptoRow.holds Try.pinned (OpenSpec.upto linkGroupsSpec)

/-- 'montagelaw28.LinkAdds', WHERE WHAT IT READS IS OF BULK AT MOST 1048576: true; the input reads as it did. -/
def linkAddsUptoRow : OpenClaim := { program := "ytobhmahlenjheaa", sum := "4bd811cffbd8fc3d8170bfa4dc69805fb7b04c985e679c55d510575341b10e99", func := "montage/montagelaw28.LinkAdds", spec := "linkAdds", inPlace := ["internal/abi.NoEscape", "internal/bytealg.MakeNoZero"], apart := false, narrowed := true }
def LinkAddsUptoSaid : Prop := linkAddsUptoRow.holds Try.pinned (OpenSpec.upto linkAddsSpec)

/-- 'montagelaw28.LinkNone', WHERE WHAT IT READS IS OF BULK AT MOST 1048576: true; the input reads as it did. -/
def linkNoneUptoRow : OpenClaim := { program := "ytobhmahlenjheaa", sum := "4bd811cffbd8fc3d8170bfa4dc69805fb7b04c985e679c55d510575341b10e99", func := "montage/montagelaw28.LinkNone", spec := "linkNone", inPlace := ["internal/abi.NoEscape", "internal/bytealg.MakeNoZero"], apart := false, narrowed := true }
def LinkNoneUptoSaid : Prop := linkNoneUptoRow.holds Try.pinned (OpenSpec.upto linkNoneSpec)

/-- 'montagelaw39.DigestLayers', WHERE WHAT IT READS IS OF BULK AT MOST 1048576: true; the input reads as it did. -/
def digestLayersUptoRow : OpenClaim := { program := "ytobhmahlenjheaa", sum := "4bd811cffbd8fc3d8170bfa4dc69805fb7b04c985e679c55d510575341b10e99", func := "montage/montagelaw39.DigestLayers", spec := "digestLayers", inPlace := ["internal/abi.NoEscape", "internal/bytealg.MakeNoZero"], apart := false, narrowed := true }
def DigestLayersUptoSaid : Prop := digestLayersUptoRow.holds Try.pinned (OpenSpec.upto digestLayersSpec)

/-- 'montagelaw39.DigestTrees', WHERE WHAT IT READS IS OF BULK AT MOST 1048576: true; the input reads as it did. -/
def digestTreesUptoRow : OpenClaim := { program := "ytobhmahlenjheaa", sum := "4bd811cffbd8fc3d8170bfa4dc69805fb7b04c985e679c55d510575341b10e99", func := "montage/montagelaw39.DigestTrees", spec := "digestTrees", inPlace := ["internal/abi.NoEscape", "internal/bytealg.MakeNoZero"], apart := false, narrowed := true }
def DigestTreesUptoSaid : Prop := digestTreesUptoRow.holds Try.pinned (OpenSpec.upto digestTreesSpec)

/-- 'montagelaw39.DigestMoved', WHERE WHAT IT READS IS OF BULK AT MOST 1048576: true; the input reads as it did. -/
def digestMovedUptoRow : OpenClaim := { program := "ytobhmahlenjheaa", sum := "4bd811cffbd8fc3d8170bfa4dc69805fb7b04c985e679c55d510575341b10e99", func := "montage/montagelaw39.DigestMoved", spec := "digestMoved", inPlace := ["internal/abi.NoEscape", "internal/bytealg.MakeNoZero"], apart := false, narrowed := true }
def DigestMovedUptoSaid : Prop := digestMovedUptoRow.holds Try.pinned (OpenSpec.upto digestMovedSpec)

end Rows
end Go.Proofs.Ytobhmahlenjheaa
