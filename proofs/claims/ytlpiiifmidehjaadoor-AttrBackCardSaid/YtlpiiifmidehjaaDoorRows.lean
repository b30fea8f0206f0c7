/-
  NARROWER THAN 'FOR EVERY INPUT', by the rows' own cells (each row's printed sentence says how): AttrOf: laid · AttrBack: laid · MarkKinds: laid · MarkPaths: laid · RouteNames: laid · RouteParts: laid · RouteOrder: laid · WeaveTells: laid · WeaveSets: laid.
  DERIVED. THE GIVEN ROWS OF THIS SEAT. 9 by the template 'for every input the law returns true; each argument reads behind the call as it read before'; 0 by the template 'total and deterministic' (their statements: YtlpiiifmidehjaaDoorTotals.lean).
  GIVEN WITH THE SEED: the statements are not yours to turn. If you find one false, say at which input.
  Laid BY PROGRAM, IN A SANDBOX (cutbox-rows.mjs): the forced cells as the released guide's own fill.sh prints them over the translation cc253fd8f029201e… (all of the seat's roots in one cut). By AI agents, Wed Nov 11 2026. No macro, syntax, notation, axiom, sorry.
-/
import Derived.Test.YtlpiiifmidehjaaDoorChecked
import GoSem.PinnedTables
import GoSem.Claim
import GoSem.ClaimJoined
import GoSem.ClaimMapViews
import Derived.JoinedTies
import Derived.KernelRfl
namespace Go.Proofs.YtlpiiifmidehjaaDoor
/- THE CELL 'sum', in the pinned program and in every row, IS THE sha256 OF THE DUMP (.gsa) THAT YtlpiiifmidehjaaDoorProg.lean LOADS. Nothing in Lean hashes anything: it is a label: what it is worth is what the hold of that sum in a sandbox is worth. -/
noncomputable def Tryd.pinned : Pinned := { name := "ytlpiiifmidehjaadoor", sum := "cc253fd8f029201e2a0079d9c37ea70dbb0f21cb90c894b16df483bede4b2422", checked := Tryd.checked }
namespace Rows
def none {H : Type} : Left H := { results := [], args := [] }

/- WHAT THE LISTED PACKAGE-LEVEL VARIABLES READ AS WHEN THE CALL BEGINS. Each datum BY PROGRAM (the guide's laid-datum.mjs) off the statement by which the dump's own 'gosem.cut.vars' lays the variable. In a bare row this is a premise. The card (YtlpiiifmidehjaaDoorCards.lean) ties it to the program's text. -/
def laid_unicode_utf8_acceptRanges {H : Type} : DataW H := .agg [.agg [.lit (.int .u8 128), .lit (.int .u8 191)], .agg [.lit (.int .u8 160), .lit (.int .u8 191)], .agg [.lit (.int .u8 128), .lit (.int .u8 159)], .agg [.lit (.int .u8 144), .lit (.int .u8 191)], .agg [.lit (.int .u8 128), .lit (.int .u8 143)], .agg [.lit (.int .u8 0), .lit (.int .u8 0)], .agg [.lit (.int .u8 0), .lit (.int .u8 0)], .agg [.lit (.int .u8 0), .lit (.int .u8 0)], .agg [.lit (.int .u8 0), .lit (.int .u8 0)], .agg [.lit (.int .u8 0), .lit (.int .u8 0)], .agg [.lit (.int .u8 0), .lit (.int .u8 0)], .agg [.lit (.int .u8 0), .lit (.int .u8 0)], .agg [.lit (.int .u8 0), .lit (.int .u8 0)], .agg [.lit (.int .u8 0), .lit (.int .u8 0)], .agg [.lit (.int .u8 0), .lit (.int .u8 0)], .agg [.lit (.int .u8 0), .lit (.int .u8 0)]]
/-- One of Go's own tables, pinned by name: the form's constant. -/
def laid_unicode_utf8_first : DataW Unit := Go.Pinned.utf8First

/-- 'montagelaw21.AttrOf': WHATEVER THE INPUT: true; the input reads as it did. -/
def attrOfSpec : ChangeSpec := { name := "attrOf", fn := fun _ => fun
  | [d] => { results := [.lit (.bool true)], args := [d] }
  | _ => none }
def attrOfRow : OpenClaim := { program := "ytlpiiifmidehjaadoor", sum := "cc253fd8f029201e2a0079d9c37ea70dbb0f21cb90c894b16df483bede4b2422", func := "montage/montagelaw21.AttrOf", spec := "attrOf", inPlace := ["internal/bytealg.CountString", "internal/bytealg.IndexByteString", "internal/bytealg.IndexString"], unfollowed := true, recurses := true, named := ["unicode/utf8.first", "unicode/utf8.acceptRanges", "internal/bytealg.MaxLen"], apart := false, laid := [("unicode/utf8.acceptRanges", laid_unicode_utf8_acceptRanges), ("unicode/utf8.first", laid_unicode_utf8_first)] }
def AttrOfSaid : Prop := attrOfRow.holds Tryd.pinned (OpenSpec.ofChange attrOfSpec)

/-- ITS FALSE NEIGHBOUR: 'it returns false'. Refute it at one input. -/
def attrOfWrong : ChangeSpec := { name := "attrOf", fn := fun _ => fun
  | [d] => { results := [.lit (.bool false)], args := [d] }
  | _ => none }
def AttrOfWrongFalsely : Prop := attrOfRow.holds Tryd.pinned (OpenSpec.ofChange attrOfWrong)

/-- 'montagelaw21.AttrBack': WHATEVER THE INPUT: true; the input reads as it did. -/
def attrBackSpec : ChangeSpec := { name := "attrBack", fn := fun _ => fun
  | [d] => { results := [.lit (.bool true)], args := [d] }
  | _ => none }
def attrBackRow : OpenClaim := { program := "ytlpiiifmidehjaadoor", sum := "cc253fd8f029201e2a0079d9c37ea70dbb0f21cb90c894b16df483bede4b2422", func := "montage/montagelaw21.AttrBack", spec := "attrBack", inPlace := ["internal/bytealg.CountString", "internal/bytealg.IndexByteString", "internal/bytealg.IndexString"], unfollowed := true, recurses := true, named := ["unicode/utf8.first", "unicode/utf8.acceptRanges", "internal/bytealg.MaxLen"], apart := false, laid := [("unicode/utf8.acceptRanges", laid_unicode_utf8_acceptRanges), ("unicode/utf8.first", laid_unicode_utf8_first)] }
def AttrBackSaid : Prop := attrBackRow.holds Tryd.pinned (OpenSpec.ofChange attrBackSpec)

/-- ITS FALSE NEIGHBOUR: 'it returns false'. Refute it at one input. -/
def attrBackWrong : ChangeSpec := { name := "attrBack", fn := fun _ => fun
  | [d] => { results := [.lit (.bool false)], args := [d] }
  | _ => none }
def AttrBackWrongFalsely : Prop := attrBackRow.holds Tryd.pinned (OpenSpec.ofChange attrBackWrong)

/-- 'montagelaw22.MarkKinds': WHATEVER THE INPUT: true; the input reads as it did. -/
def markKindsSpec : ChangeSpec := { name := "markKinds", fn := fun _ => fun
  | [d] => { results := [.lit (.bool true)], args := [d] }
  | _ => none }
def markKindsRow : OpenClaim := { program := "ytlpiiifmidehjaadoor", sum := "cc253fd8f029201e2a0079d9c37ea70dbb0f21cb90c894b16df483bede4b2422", func := "montage/montagelaw22.MarkKinds", spec := "markKinds", inPlace := ["internal/bytealg.CountString", "internal/bytealg.IndexByteString", "internal/bytealg.IndexString"], unfollowed := true, recurses := true, named := ["unicode/utf8.first", "unicode/utf8.acceptRanges", "internal/bytealg.MaxLen"], apart := false, laid := [("unicode/utf8.acceptRanges", laid_unicode_utf8_acceptRanges), ("unicode/utf8.first", laid_unicode_utf8_first)] }
def MarkKindsSaid : Prop := markKindsRow.holds Tryd.pinned (OpenSpec.ofChange markKindsSpec)

/-- ITS FALSE NEIGHBOUR: 'it returns false'. Refute it at one input. -/
def markKindsWrong : ChangeSpec := { name := "markKinds", fn := fun _ => fun
  | [d] => { results := [.lit (.bool false)], args := [d] }
  | _ => none }
def MarkKindsWrongFalsely : Prop := markKindsRow.holds Tryd.pinned (OpenSpec.ofChange markKindsWrong)

/-- 'montagelaw22.MarkPaths': WHATEVER THE INPUT: true; the input reads as it did. -/
def markPathsSpec : ChangeSpec := { name := "markPaths", fn := fun _ => fun
  | [d1, d2] => { results := [.lit (.bool true)], args := [d1, d2] }
  | _ => none }
def markPathsRow : OpenClaim := { program := "ytlpiiifmidehjaadoor", sum := "cc253fd8f029201e2a0079d9c37ea70dbb0f21cb90c894b16df483bede4b2422", func := "montage/montagelaw22.MarkPaths", spec := "markPaths", inPlace := ["internal/bytealg.CountString", "internal/bytealg.IndexByteString", "internal/bytealg.IndexString"], unfollowed := true, recurses := true, named := ["unicode/utf8.first", "unicode/utf8.acceptRanges", "internal/bytealg.MaxLen"], apart := false, laid := [("unicode/utf8.acceptRanges", laid_unicode_utf8_acceptRanges), ("unicode/utf8.first", laid_unicode_utf8_first)] }
def MarkPathsSaid : Prop := markPathsRow.holds Tryd.pinned (OpenSpec.ofChange markPathsSpec)

/-- ITS FALSE NEIGHBOUR: 'it returns false'. Refute it at one input. -/
def markPathsWrong : ChangeSpec := { name := "markPaths", fn := fun _ => fun
  | [d1, d2] => { results := [.lit (.bool false)], args := [d1, d2] }
  | _ => none }
def MarkPathsWrongFalsely : Prop := markPathsRow.holds Tryd.pinned (OpenSpec.ofChange markPathsWrong)

/-- 'montagelaw13.RouteNames': WHATEVER THE INPUT: true; the input reads as it did. -/
def routeNamesSpec : ChangeSpec := { name := "routeNames", fn := fun _ => fun
  | [d] => { results := [.lit (.bool true)], args := [d] }
  | _ => none }
def routeNamesRow : OpenClaim := { program := "ytlpiiifmidehjaadoor", sum := "cc253fd8f029201e2a0079d9c37ea70dbb0f21cb90c894b16df483bede4b2422", func := "montage/montagelaw13.RouteNames", spec := "routeNames", inPlace := ["internal/bytealg.CountString", "internal/bytealg.IndexByteString", "internal/bytealg.IndexString", "internal/abi.NoEscape", "internal/bytealg.MakeNoZero"], unfollowed := true, recurses := true, named := ["unicode/utf8.first", "unicode/utf8.acceptRanges", "internal/bytealg.MaxLen"], apart := false, laid := [("unicode/utf8.acceptRanges", laid_unicode_utf8_acceptRanges), ("unicode/utf8.first", laid_unicode_utf8_first)] }
def RouteNamesSaid : Prop := routeNamesRow.holds Tryd.pinned (OpenSpec.ofChange routeNamesSpec)

/-- ITS FALSE NEIGHBOUR: 'it returns false'. Refute it at one input. -/
def routeNamesWrong : ChangeSpec := { name := "routeNames", fn := fun _ => fun
  | [d] => { results := [.lit (.bool false)], args := [d] }
  | _ => none }
def RouteNamesWrongFalsely : Prop := routeNamesRow.holds Tryd.pinned (OpenSpec.ofChange routeNamesWrong)

/-- 'montagelaw13.RouteParts': WHATEVER THE INPUT: true; the input reads as it did. -/
def routePartsSpec : ChangeSpec := { name := "routeParts", fn := fun _ => fun
  | [d1, d2] => { results := [.lit (.bool true)], args := [d1, d2] }
  | _ => none }
def routePartsRow : OpenClaim := { program := "ytlpiiifmidehjaadoor", sum := "cc253fd8f029201e2a0079d9c37ea70dbb0f21cb90c894b16df483bede4b2422", func := "montage/montagelaw13.RouteParts", spec := "routeParts", inPlace := ["internal/bytealg.CountString", "internal/bytealg.IndexByteString", "internal/bytealg.IndexString", "internal/abi.NoEscape", "internal/bytealg.MakeNoZero"], unfollowed := true, recurses := true, named := ["unicode/utf8.first", "unicode/utf8.acceptRanges", "internal/bytealg.MaxLen"], apart := false, laid := [("unicode/utf8.acceptRanges", laid_unicode_utf8_acceptRanges), ("unicode/utf8.first", laid_unicode_utf8_first)] }
def RoutePartsSaid : Prop := routePartsRow.holds Tryd.pinned (OpenSpec.ofChange routePartsSpec)

/-- ITS FALSE NEIGHBOUR: 'it returns false'. Refute it at one input. -/
def routePartsWrong : ChangeSpec := { name := "routeParts", fn := fun _ => fun
  | [d1, d2] => { results := [.lit (.bool false)], args := [d1, d2] }
  | _ => none }
def RoutePartsWrongFalsely : Prop := routePartsRow.holds Tryd.pinned (OpenSpec.ofChange routePartsWrong)

/-- 'montagelaw13.RouteOrder': WHATEVER THE INPUT: true; the input reads as it did. -/
def routeOrderSpec : ChangeSpec := { name := "routeOrder", fn := fun _ => fun
  | [d1, d2, d3] => { results := [.lit (.bool true)], args := [d1, d2, d3] }
  | _ => none }
def routeOrderRow : OpenClaim := { program := "ytlpiiifmidehjaadoor", sum := "cc253fd8f029201e2a0079d9c37ea70dbb0f21cb90c894b16df483bede4b2422", func := "montage/montagelaw13.RouteOrder", spec := "routeOrder", inPlace := ["internal/bytealg.CountString", "internal/bytealg.IndexByteString", "internal/bytealg.IndexString", "internal/abi.NoEscape", "internal/bytealg.MakeNoZero"], unfollowed := true, recurses := true, named := ["unicode/utf8.first", "unicode/utf8.acceptRanges", "internal/bytealg.MaxLen"], apart := false, laid := [("unicode/utf8.acceptRanges", laid_unicode_utf8_acceptRanges), ("unicode/utf8.first", laid_unicode_utf8_first)] }
def RouteOrderSaid : Prop := routeOrderRow.holds Tryd.pinned (OpenSpec.ofChange routeOrderSpec)

/-- ITS FALSE NEIGHBOUR: 'it returns false'. Refute it at one input. -/
def routeOrderWrong : ChangeSpec := { name := "routeOrder", fn := fun _ => fun
  | [d1, d2, d3] => { results := [.lit (.bool false)], args := [d1, d2, d3] }
  | _ => none }
def RouteOrderWrongFalsely : Prop := routeOrderRow.holds Tryd.pinned (OpenSpec.ofChange routeOrderWrong)

/-- 'montagelaw16.WeaveTells': WHATEVER THE INPUT: true; the input reads as it did. -/
def weaveTellsSpec : ChangeSpec := { name := "weaveTells", fn := fun _ => fun
  | [d1, d2] => { results := [.lit (.bool true)], args := [d1, d2] }
  | _ => none }
def weaveTellsRow : OpenClaim := { program := "ytlpiiifmidehjaadoor", sum := "cc253fd8f029201e2a0079d9c37ea70dbb0f21cb90c894b16df483bede4b2422", func := "montage/montagelaw16.WeaveTells", spec := "weaveTells", inPlace := ["internal/bytealg.CountString", "internal/bytealg.IndexByteString", "internal/bytealg.IndexString"], unfollowed := true, recurses := true, named := ["unicode/utf8.first", "unicode/utf8.acceptRanges", "internal/bytealg.MaxLen"], apart := false, laid := [("unicode/utf8.acceptRanges", laid_unicode_utf8_acceptRanges), ("unicode/utf8.first", laid_unicode_utf8_first)] }
def WeaveTellsSaid : Prop := weaveTellsRow.holds Tryd.pinned (OpenSpec.ofChange weaveTellsSpec)

/-- ITS FALSE NEIGHBOUR: 'it returns false'. Refute it at one input. -/
def weaveTellsWrong : ChangeSpec := { name := "weaveTells", fn := fun _ => fun
  | [d1, d2] => { results := [.lit (.bool false)], args := [d1, d2] }
  | _ => none }
def WeaveTellsWrongFalsely : Prop := weaveTellsRow.holds Tryd.pinned (OpenSpec.ofChange weaveTellsWrong)

/-- 'montagelaw16.WeaveSets': WHATEVER THE INPUT: true; the input reads as it did. -/
def weaveSetsSpec : ChangeSpec := { name := "weaveSets", fn := fun _ => fun
  | [d] => { results := [.lit (.bool true)], args := [d] }
  | _ => none }
def weaveSetsRow : OpenClaim := { program := "ytlpiiifmidehjaadoor", sum := "cc253fd8f029201e2a0079d9c37ea70dbb0f21cb90c894b16df483bede4b2422", func := "montage/montagelaw16.WeaveSets", spec := "weaveSets", inPlace := ["internal/bytealg.CountString", "internal/bytealg.IndexByteString", "internal/bytealg.IndexString"], unfollowed := true, recurses := true, named := ["unicode/utf8.first", "unicode/utf8.acceptRanges", "internal/bytealg.MaxLen"], apart := false, laid := [("unicode/utf8.acceptRanges", laid_unicode_utf8_acceptRanges), ("unicode/utf8.first", laid_unicode_utf8_first)] }
def WeaveSetsSaid : Prop := weaveSetsRow.holds Tryd.pinned (OpenSpec.ofChange weaveSetsSpec)

/-- ITS FALSE NEIGHBOUR: 'it returns false'. Refute it at one input. -/
def weaveSetsWrong : ChangeSpec := { name := "weaveSets", fn := fun _ => fun
  | [d] => { results := [.lit (.bool false)], args := [d] }
  | _ => none }
def WeaveSetsWrongFalsely : Prop := weaveSetsRow.holds Tryd.pinned (OpenSpec.ofChange weaveSetsWrong)

/- THE SECOND FORM. 'bulk': how many values and letters a reading holds, each counted each time it is reached (what is shared counts as often as it is met; a slice's spare places count too). A statement '..UptoSaid' is the law's where the arguments, and the package variables that the reading takes, are together of bulk at most 1048576: NARROWER than '..Said'. Prove '..Said' where nothing that the law and all that it calls make is longer than what came in: it says more and counts as full. Else prove '..UptoSaid'. A law counts once. -/
mutual
def uptoBulk {H : Type} : DataW H → Nat
  | .lit (.string bytes) => bytes.length + 1
  | .lit _ => 1
  | .nil => 1
  | .ptr d => uptoBulk d + 1
  | .slice elems spare => uptoBulkAll elems + uptoBulkAll spare + 1
  | .agg parts => uptoBulkAll parts + 1
  | .iface _ d => uptoBulk d + 1
  | .map entries => uptoBulkEntries entries + 1
  | .held _ => 1
def uptoBulkAll {H : Type} : List (DataW H) → Nat
  | [] => 0
  | d :: r => uptoBulk d + uptoBulkAll r
def uptoBulkEntries {H : Type} : List (Lit × DataW H) → Nat
  | [] => 0
  | x :: r => uptoBulkEntry x + uptoBulkEntries r
def uptoBulkEntry {H : Type} : Lit × DataW H → Nat
  | (.string bytes, d) => bytes.length + uptoBulk d + 1
  | (_, d) => uptoBulk d + 1
 end
def uptoSmall : (H : Type) → List (DataW H) → Bool := fun _ ds => decide (uptoBulkAll ds ≤ 1048576)
def OpenSpec.upto (s : _root_.Go.ChangeSpec) : _root_.Go.OpenSpec := { _root_.Go.OpenSpec.ofChange s with cond := some uptoSmall }

/-- 'montagelaw21.AttrOf', WHERE WHAT IT READS IS OF BULK AT MOST 1048576: true; the input reads as it did. -/
def attrOfUptoRow : OpenClaim := { program := "ytlpiiifmidehjaadoor", sum := "cc253fd8f029201e2a0079d9c37ea70dbb0f21cb90c894b16df483bede4b2422", func := "montage/montagelaw21.AttrOf", spec := "attrOf", inPlace := ["internal/bytealg.CountString", "internal/bytealg.IndexByteString", "internal/bytealg.IndexString"], unfollowed := true, recurses := true, named := ["unicode/utf8.first", "unicode/utf8.acceptRanges", "internal/bytealg.MaxLen"], apart := false, laid := [("unicode/utf8.acceptRanges", laid_unicode_utf8_acceptRanges), ("unicode/utf8.first", laid_unicode_utf8_first)], narrowed := true }
def AttrOfUptoSaid : Prop := attrOfUptoRow.holds Tryd.pinned (OpenSpec.upto attrOfSpec)

/-- 'montagelaw21.AttrBack', WHERE WHAT IT READS IS OF BULK AT MOST 1048576: true; the input reads as it did. -/
def attrBackUptoRow : OpenClaim := { program := "ytlpiiifmidehjaadoor", sum := "cc253fd8f029201e2a0079d9c37ea70dbb0f21cb90c894b16df483bede4b2422", func := "montage/montagelaw21.AttrBack", spec := "attrBack", inPlace := ["internal/bytealg.CountString", "internal/bytealg.IndexByteString", "internal/bytealg.IndexString"], unfollowed := true, recurses := true, named := ["unicode/utf8.first", "unicode/utf8.acceptRanges", "internal/bytealg.MaxLen"], apart := false, laid := [("unicode/utf8.acceptRanges", laid_unicode_utf8_acceptRanges), ("unicode/utf8.first", laid_unicode_utf8_first)], narrowed := true }
def AttrBackUptoSaid : Prop := attrBackUptoRow.holds Tryd.pinned (OpenSpec.upto attrBackSpec)

/-- 'montagelaw22.MarkKinds', WHERE WHAT IT READS IS OF BULK AT MOST 1048576: true; the input reads as it did. -/
def markKindsUptoRow : OpenClaim := { program := "ytlpiiifmidehjaadoor", sum := "cc253fd8f029201e2a0079d9c37ea70dbb0f21cb90c894b16df483bede4b2422", func := "montage/montagelaw22.MarkKinds", spec := "markKinds", inPlace := ["internal/bytealg.CountString", "internal/bytealg.IndexByteString", "internal/bytealg.IndexString"], unfollowed := true, recurses := true, named := ["unicode/utf8.first", "unicode/utf8.acceptRanges", "internal/bytealg.MaxLen"], apart := false, laid := [("unicode/utf8.acceptRanges", laid_unicode_utf8_acceptRanges), ("unicode/utf8.first", laid_unicode_utf8_first)], narrowed := true }
def MarkKindsUptoSaid : Prop := markKindsUptoRow.holds Tryd.pinned (OpenSpec.upto markKindsSpec)

/-- 'montagelaw22.MarkPaths', WHERE WHAT IT READS IS OF BULK AT MOST 1048576: true; the input reads as it did. -/
def markPathsUptoRow : OpenClaim := { program := "ytlpiiifmidehjaadoor", sum := "cc253fd8f029201e2a0079d9c37ea70dbb0f21cb90c894b16df483bede4b2422", func := "montage/montagelaw22.MarkPaths", spec := "markPaths", inPlace := ["internal/bytealg.CountString", "internal/bytealg.IndexByteString", "internal/bytealg.IndexString"], unfollowed := true, recurses := true, named := ["unicode/utf8.first", "unicode/utf8.acceptRanges", "internal/bytealg.MaxLen"], apart := false, laid := [("unicode/utf8.acceptRanges", laid_unicode_utf8_acceptRanges), ("unicode/utf8.first", laid_unicode_utf8_first)], narrowed := true }
def MarkPathsUptoSaid : Prop := markPathsUptoRow.holds Tryd.pinned (OpenSpec.upto markPathsSpec)

/-- 'montagelaw13.RouteNames', WHERE WHAT IT READS IS OF BULK AT MOST 1048576: true; the input reads as it did. -/
def routeNamesUptoRow : OpenClaim := { program := "ytlpiiifmidehjaadoor", sum := "cc253fd8f029201e2a0079d9c37ea70dbb0f21cb90c894b16df483bede4b2422", func := "montage/montagelaw13.RouteNames", spec := "routeNames", inPlace := ["internal/bytealg.CountString", "internal/bytealg.IndexByteString", "internal/bytealg.IndexString", "internal/abi.NoEscape", "internal/bytealg.MakeNoZero"], unfollowed := true, recurses := true, named := ["unicode/utf8.first", "unicode/utf8.acceptRanges", "internal/bytealg.MaxLen"], apart := false, laid := [("unicode/utf8.acceptRanges", laid_unicode_utf8_acceptRanges), ("unicode/utf8.first", laid_unicode_utf8_first)], narrowed := true }
def RouteNamesUptoSaid : Prop := routeNamesUptoRow.holds Tryd.pinned (OpenSpec.upto routeNamesSpec)

/-- 'montagelaw13.RouteParts', WHERE WHAT IT READS IS OF BULK AT MOST 1048576: true; the input reads as it did. -/
def routePartsUptoRow : OpenClaim := { program := "ytlpiiifmidehjaadoor", sum := "cc253fd8f029201e2a0079d9c37ea70dbb0f21cb90c894b16df483bede4b2422", func := "montage/montagelaw13.RouteParts", spec := "routeParts", inPlace := ["internal/bytealg.CountString", "internal/bytealg.IndexByteString", "internal/bytealg.IndexString", "internal/abi.NoEscape", "internal/bytealg.MakeNoZero"], unfollowed := true, recurses := true, named := ["unicode/utf8.first", "unicode/utf8.acceptRanges", "internal/bytealg.MaxLen"], apart := false, laid := [("unicode/utf8.acceptRanges", laid_unicode_utf8_acceptRanges), ("unicode/utf8.first", laid_unicode_utf8_first)], narrowed := true }
def RoutePartsUptoSaid : Prop := routePartsUptoRow.holds Tryd.pinned (OpenSpec.upto routePartsSpec)

/-- 'montagelaw13.RouteOrder', WHERE WHAT IT READS IS OF BULK AT MOST 1048576: true; the input reads as it did. -/
def routeOrderUptoRow : OpenClaim := { program := "ytlpiiifmidehjaadoor", sum := "cc253fd8f029201e2a0079d9c37ea70dbb0f21cb90c894b16df483bede4b2422", func := "montage/montagelaw13.RouteOrder", spec := "routeOrder", inPlace := ["internal/bytealg.CountString", "internal/bytealg.IndexByteString", "internal/bytealg.IndexString", "internal/abi.NoEscape", "internal/bytealg.MakeNoZero"], unfollowed := true, recurses := true, named := ["unicode/utf8.first", "unicode/utf8.acceptRanges", "internal/bytealg.MaxLen"], apart := false, laid := [("unicode/utf8.acceptRanges", laid_unicode_utf8_acceptRanges), ("unicode/utf8.first", laid_unicode_utf8_first)], narrowed := true }
def RouteOrderUptoSaid : Prop := routeOrderUptoRow.holds Tryd.pinned (OpenSpec.upto routeOrderSpec)

/-- 'montagelaw16.WeaveTells', WHERE WHAT IT READS IS OF BULK AT MOST 1048576: true; the input reads as it did. -/
def weaveTellsUptoRow : OpenClaim := { program := "ytlpiiifmidehjaadoor", sum := "cc253fd8f029201e2a0079d9c37ea70dbb0f21cb90c894b16df483bede4b2422", func := "montage/montagelaw16.WeaveTells", spec := "weaveTells", inPlace := ["internal/bytealg.CountString", "internal/bytealg.IndexByteString", "internal/bytealg.IndexString"], unfollowed := true, recurses := true, named := ["unicode/utf8.first", "unicode/utf8.acceptRanges", "internal/bytealg.MaxLen"], apart := false, laid := [("unicode/utf8.acceptRanges", laid_unicode_utf8_acceptRanges), ("unicode/utf8.first", laid_unicode_utf8_first)], narrowed := true }
def WeaveTellsUptoSaid : Prop := weaveTellsUptoRow.holds Tryd.pinned (OpenSpec.upto weaveTellsSpec)

/-- 'montagelaw16.WeaveSets', WHERE WHAT IT READS IS OF BULK AT MOST 1048576: true; the input reads as it did. -/
def weaveSetsUptoRow : OpenClaim := { program := "ytlpiiifmidehjaadoor", sum := "cc253fd8f029201e2a0079d9c37ea70dbb0f21cb90c894b16df483bede4b2422", func := "montage/montagelaw16.WeaveSets", spec := "weaveSets", inPlace := ["internal/bytealg.CountString", "internal/bytealg.IndexByteString", "internal/bytealg.IndexString"], unfollowed := true, recurses := true, named := ["unicode/utf8.first", "unicode/utf8.acceptRanges", "internal/bytealg.MaxLen"], apart := false, laid := [("unicode/utf8.acceptRanges", laid_unicode_utf8_acceptRanges), ("unicode/utf8.first", laid_unicode_utf8_first)], narrowed := true }
def WeaveSetsUptoSaid : Prop := weaveSetsUptoRow.holds Tryd.pinned (OpenSpec.upto weaveSetsSpec)

end Rows
end Go.Proofs.YtlpiiifmidehjaaDoor
