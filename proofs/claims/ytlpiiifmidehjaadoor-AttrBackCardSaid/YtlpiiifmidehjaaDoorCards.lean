/-
  DERIVED. GIVEN WITH THE SEED: THE CARDS: each row of YtlpiiifmidehjaaDoorRows.lean that lists a variable, with what it lists TIED to the program's text (the seventh form; the later family's looks); each row that meets fmt, with fmt's text TOLD by the authors' own Lean function (tested against real Go, not proved from fmt's source: count such statements apart). THE CARD IS WHAT COUNTS. Prove the row's statement (the work); the ties are given (YtlpiiifmidehjaaDoorTie.lean); close each card by the builder's one call (the guide's Derived/Test/ToyasCard.lean, 'card_holds'). Laid BY PROGRAM, IN A SANDBOX (cutbox-door.mjs). By AI agents, Wed Nov 11 2026. No macro, syntax, notation, axiom, sorry.
-/
import Derived.Test.YtlpiiifmidehjaaDoorRows
import GoSem.ClaimSeven
namespace Go.Proofs.YtlpiiifmidehjaaDoor
namespace Rows

/-- THE TIED CARD OF 'montagelaw21.AttrOf'. -/
def attrOfCard : Claim7 := { stood := { row := attrOfRow, standIns := [], harness := (true, "8e9dfdd61317279a3a6ffc85376297206ea2ad48b61c22029dac58d767d99f71"), looks := false }, kinds := [], alts := [], laidByText := true, laidKinds := [.data, .pinned], laidTests := true, laidLooks := .later }
def AttrOfCardSaid : Prop := Claim7.holds Tryd.pinned (.plain (OpenSpec.ofChange attrOfSpec)) attrOfCard

/-- THE TIED CARD OF 'montagelaw21.AttrBack'. -/
def attrBackCard : Claim7 := { stood := { row := attrBackRow, standIns := [], harness := (true, "8e9dfdd61317279a3a6ffc85376297206ea2ad48b61c22029dac58d767d99f71"), looks := false }, kinds := [], alts := [], laidByText := true, laidKinds := [.data, .pinned], laidTests := true, laidLooks := .later }
def AttrBackCardSaid : Prop := Claim7.holds Tryd.pinned (.plain (OpenSpec.ofChange attrBackSpec)) attrBackCard

/-- THE TIED CARD OF 'montagelaw22.MarkKinds'. -/
def markKindsCard : Claim7 := { stood := { row := markKindsRow, standIns := [], harness := (true, "8e9dfdd61317279a3a6ffc85376297206ea2ad48b61c22029dac58d767d99f71"), looks := false }, kinds := [], alts := [], laidByText := true, laidKinds := [.data, .pinned], laidTests := true, laidLooks := .later }
def MarkKindsCardSaid : Prop := Claim7.holds Tryd.pinned (.plain (OpenSpec.ofChange markKindsSpec)) markKindsCard

/-- THE TIED CARD OF 'montagelaw22.MarkPaths'. -/
def markPathsCard : Claim7 := { stood := { row := markPathsRow, standIns := [], harness := (true, "8e9dfdd61317279a3a6ffc85376297206ea2ad48b61c22029dac58d767d99f71"), looks := false }, kinds := [], alts := [], laidByText := true, laidKinds := [.data, .pinned], laidTests := true, laidLooks := .later }
def MarkPathsCardSaid : Prop := Claim7.holds Tryd.pinned (.plain (OpenSpec.ofChange markPathsSpec)) markPathsCard

/-- THE TIED CARD OF 'montagelaw13.RouteNames'. -/
def routeNamesCard : Claim7 := { stood := { row := routeNamesRow, standIns := [], harness := (true, "8e9dfdd61317279a3a6ffc85376297206ea2ad48b61c22029dac58d767d99f71"), looks := false }, kinds := [], alts := [], laidByText := true, laidKinds := [.data, .pinned], laidTests := true, laidLooks := .later }
def RouteNamesCardSaid : Prop := Claim7.holds Tryd.pinned (.plain (OpenSpec.ofChange routeNamesSpec)) routeNamesCard

/-- THE TIED CARD OF 'montagelaw13.RouteParts'. -/
def routePartsCard : Claim7 := { stood := { row := routePartsRow, standIns := [], harness := (true, "8e9dfdd61317279a3a6ffc85376297206ea2ad48b61c22029dac58d767d99f71"), looks := false }, kinds := [], alts := [], laidByText := true, laidKinds := [.data, .pinned], laidTests := true, laidLooks := .later }
def RoutePartsCardSaid : Prop := Claim7.holds Tryd.pinned (.plain (OpenSpec.ofChange routePartsSpec)) routePartsCard

/-- THE TIED CARD OF 'montagelaw13.RouteOrder'. -/
def routeOrderCard : Claim7 := { stood := { row := routeOrderRow, standIns := [], harness := (true, "8e9dfdd61317279a3a6ffc85376297206ea2ad48b61c22029dac58d767d99f71"), looks := false }, kinds := [], alts := [], laidByText := true, laidKinds := [.data, .pinned], laidTests := true, laidLooks := .later }
def RouteOrderCardSaid : Prop := Claim7.holds Tryd.pinned (.plain (OpenSpec.ofChange routeOrderSpec)) routeOrderCard

/-- THE TIED CARD OF 'montagelaw16.WeaveTells'. -/
def weaveTellsCard : Claim7 := { stood := { row := weaveTellsRow, standIns := [], harness := (true, "8e9dfdd61317279a3a6ffc85376297206ea2ad48b61c22029dac58d767d99f71"), looks := false }, kinds := [], alts := [], laidByText := true, laidKinds := [.data, .pinned], laidTests := true, laidLooks := .later }
def WeaveTellsCardSaid : Prop := Claim7.holds Tryd.pinned (.plain (OpenSpec.ofChange weaveTellsSpec)) weaveTellsCard

/-- THE TIED CARD OF 'montagelaw16.WeaveSets'. -/
def weaveSetsCard : Claim7 := { stood := { row := weaveSetsRow, standIns := [], harness := (true, "8e9dfdd61317279a3a6ffc85376297206ea2ad48b61c22029dac58d767d99f71"), looks := false }, kinds := [], alts := [], laidByText := true, laidKinds := [.data, .pinned], laidTests := true, laidLooks := .later }
def WeaveSetsCardSaid : Prop := Claim7.holds Tryd.pinned (.plain (OpenSpec.ofChange weaveSetsSpec)) weaveSetsCard

/-- THE SECOND FORM's CARD OF 'montagelaw21.AttrOf'. -/
def attrOfUptoCard : Claim7 := { stood := { row := attrOfUptoRow, standIns := [], harness := (true, "8e9dfdd61317279a3a6ffc85376297206ea2ad48b61c22029dac58d767d99f71"), looks := false }, kinds := [], alts := [], laidByText := true, laidKinds := [.data, .pinned], laidTests := true, laidLooks := .later }
def AttrOfUptoCardSaid : Prop := Claim7.holds Tryd.pinned (.plain (OpenSpec.upto attrOfSpec)) attrOfUptoCard

/-- THE SECOND FORM's CARD OF 'montagelaw21.AttrBack'. -/
def attrBackUptoCard : Claim7 := { stood := { row := attrBackUptoRow, standIns := [], harness := (true, "8e9dfdd61317279a3a6ffc85376297206ea2ad48b61c22029dac58d767d99f71"), looks := false }, kinds := [], alts := [], laidByText := true, laidKinds := [.data, .pinned], laidTests := true, laidLooks := .later }
def AttrBackUptoCardSaid : Prop := Claim7.holds Tryd.pinned (.plain (OpenSpec.upto attrBackSpec)) attrBackUptoCard

/-- THE SECOND FORM's CARD OF 'montagelaw22.MarkKinds'. -/
def markKindsUptoCard : Claim7 := { stood := { row := markKindsUptoRow, standIns := [], harness := (true, "8e9dfdd61317279a3a6ffc85376297206ea2ad48b61c22029dac58d767d99f71"), looks := false }, kinds := [], alts := [], laidByText := true, laidKinds := [.data, .pinned], laidTests := true, laidLooks := .later }
def MarkKindsUptoCardSaid : Prop := Claim7.holds Tryd.pinned (.plain (OpenSpec.upto markKindsSpec)) markKindsUptoCard

/-- THE SECOND FORM's CARD OF 'montagelaw22.MarkPaths'. -/
def markPathsUptoCard : Claim7 := { stood := { row := markPathsUptoRow, standIns := [], harness := (true, "8e9dfdd61317279a3a6ffc85376297206ea2ad48b61c22029dac58d767d99f71"), looks := false }, kinds := [], alts := [], laidByText := true, laidKinds := [.data, .pinned], laidTests := true, laidLooks := .later }
def MarkPathsUptoCardSaid : Prop := Claim7.holds Tryd.pinned (.plain (OpenSpec.upto markPathsSpec)) markPathsUptoCard

/-- THE SECOND FORM's CARD OF 'montagelaw13.RouteNames'. -/
def routeNamesUptoCard : Claim7 := { stood := { row := routeNamesUptoRow, standIns := [], harness := (true, "8e9dfdd61317279a3a6ffc85376297206ea2ad48b61c22029dac58d767d99f71"), looks := false }, kinds := [], alts := [], laidByText := true, laidKinds := [.data, .pinned], laidTests := true, laidLooks := .later }
def RouteNamesUptoCardSaid : Prop := Claim7.holds Tryd.pinned (.plain (OpenSpec.upto routeNamesSpec)) routeNamesUptoCard

/-- THE SECOND FORM's CARD OF 'montagelaw13.RouteParts'. -/
def routePartsUptoCard : Claim7 := { stood := { row := routePartsUptoRow, standIns := [], harness := (true, "8e9dfdd61317279a3a6ffc85376297206ea2ad48b61c22029dac58d767d99f71"), looks := false }, kinds := [], alts := [], laidByText := true, laidKinds := [.data, .pinned], laidTests := true, laidLooks := .later }
def RoutePartsUptoCardSaid : Prop := Claim7.holds Tryd.pinned (.plain (OpenSpec.upto routePartsSpec)) routePartsUptoCard

/-- THE SECOND FORM's CARD OF 'montagelaw13.RouteOrder'. -/
def routeOrderUptoCard : Claim7 := { stood := { row := routeOrderUptoRow, standIns := [], harness := (true, "8e9dfdd61317279a3a6ffc85376297206ea2ad48b61c22029dac58d767d99f71"), looks := false }, kinds := [], alts := [], laidByText := true, laidKinds := [.data, .pinned], laidTests := true, laidLooks := .later }
def RouteOrderUptoCardSaid : Prop := Claim7.holds Tryd.pinned (.plain (OpenSpec.upto routeOrderSpec)) routeOrderUptoCard

/-- THE SECOND FORM's CARD OF 'montagelaw16.WeaveTells'. -/
def weaveTellsUptoCard : Claim7 := { stood := { row := weaveTellsUptoRow, standIns := [], harness := (true, "8e9dfdd61317279a3a6ffc85376297206ea2ad48b61c22029dac58d767d99f71"), looks := false }, kinds := [], alts := [], laidByText := true, laidKinds := [.data, .pinned], laidTests := true, laidLooks := .later }
def WeaveTellsUptoCardSaid : Prop := Claim7.holds Tryd.pinned (.plain (OpenSpec.upto weaveTellsSpec)) weaveTellsUptoCard

/-- THE SECOND FORM's CARD OF 'montagelaw16.WeaveSets'. -/
def weaveSetsUptoCard : Claim7 := { stood := { row := weaveSetsUptoRow, standIns := [], harness := (true, "8e9dfdd61317279a3a6ffc85376297206ea2ad48b61c22029dac58d767d99f71"), looks := false }, kinds := [], alts := [], laidByText := true, laidKinds := [.data, .pinned], laidTests := true, laidLooks := .later }
def WeaveSetsUptoCardSaid : Prop := Claim7.holds Tryd.pinned (.plain (OpenSpec.upto weaveSetsSpec)) weaveSetsUptoCard
end Rows
end Go.Proofs.YtlpiiifmidehjaaDoor
