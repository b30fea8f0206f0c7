/-
  DERIVED. GIVEN WITH THE SEED: THE CARDS: each row of YtglcbikbmobdpaaDoorRows.lean that lists a variable, with what it lists TIED to the program's text (the seventh form; the later family's looks); each row that meets fmt, with fmt's text TOLD by the authors' own Lean function (tested against real Go, not proved from fmt's source: count such statements apart). THE CARD IS WHAT COUNTS. Prove the row's statement (the work); the ties are given (YtglcbikbmobdpaaDoorTie.lean); close each card by the builder's one call (the guide's Derived/Test/ToyasCard.lean, 'card_holds'). Laid BY PROGRAM, IN A SANDBOX (cutbox-door.mjs). By AI agents, Wed Nov 11 2026. No macro, syntax, notation, axiom, sorry.
-/
import Derived.Test.YtglcbikbmobdpaaDoorRows
import GoSem.ClaimSeven
namespace Go.Proofs.YtglcbikbmobdpaaDoor
namespace Rows

/-- THE TIED CARD OF 'montagelaw15.TreeNone'. -/
def treeNoneCard : Claim7 := { stood := { row := treeNoneRow, standIns := [], harness := (true, "c5142c18505f56351920fc7483a2f5755cb830c7bd97148312eeecf07cc787d7"), looks := false }, kinds := [], alts := [], laidByText := true, laidKinds := [.data, .pinned], laidTests := true, laidLooks := .later }
def TreeNoneCardSaid : Prop := Claim7.holds Tryd.pinned (.plain (OpenSpec.ofChange treeNoneSpec)) treeNoneCard

/-- THE TIED CARD OF 'montagelaw45.UsageTells'. -/
def usageTellsCard : Claim7 := { stood := { row := usageTellsRow, standIns := [], harness := (true, "c5142c18505f56351920fc7483a2f5755cb830c7bd97148312eeecf07cc787d7"), looks := false }, kinds := [], alts := [], laidByText := true, laidKinds := [.data, .pinned], laidTests := true, laidLooks := .later }
def UsageTellsCardSaid : Prop := Claim7.holds Tryd.pinned (.plain (OpenSpec.ofChange usageTellsSpec)) usageTellsCard

/-- THE TIED CARD OF 'montagelaw45.UsageGrows'. -/
def usageGrowsCard : Claim7 := { stood := { row := usageGrowsRow, standIns := [], harness := (true, "c5142c18505f56351920fc7483a2f5755cb830c7bd97148312eeecf07cc787d7"), looks := false }, kinds := [], alts := [], laidByText := true, laidKinds := [.data, .pinned], laidTests := true, laidLooks := .later }
def UsageGrowsCardSaid : Prop := Claim7.holds Tryd.pinned (.plain (OpenSpec.ofChange usageGrowsSpec)) usageGrowsCard

/-- THE TIED CARD OF 'montagelaw45.UsageSums'. -/
def usageSumsCard : Claim7 := { stood := { row := usageSumsRow, standIns := [], harness := (true, "c5142c18505f56351920fc7483a2f5755cb830c7bd97148312eeecf07cc787d7"), looks := false }, kinds := [], alts := [], laidByText := true, laidKinds := [.data, .pinned], laidTests := true, laidLooks := .later }
def UsageSumsCardSaid : Prop := Claim7.holds Tryd.pinned (.plain (OpenSpec.ofChange usageSumsSpec)) usageSumsCard

/-- THE SECOND FORM's CARD OF 'montagelaw15.TreeNone'. -/
def treeNoneUptoCard : Claim7 := { stood := { row := treeNoneUptoRow, standIns := [], harness := (true, "c5142c18505f56351920fc7483a2f5755cb830c7bd97148312eeecf07cc787d7"), looks := false }, kinds := [], alts := [], laidByText := true, laidKinds := [.data, .pinned], laidTests := true, laidLooks := .later }
def TreeNoneUptoCardSaid : Prop := Claim7.holds Tryd.pinned (.plain (OpenSpec.upto treeNoneSpec)) treeNoneUptoCard

/-- THE SECOND FORM's CARD OF 'montagelaw45.UsageTells'. -/
def usageTellsUptoCard : Claim7 := { stood := { row := usageTellsUptoRow, standIns := [], harness := (true, "c5142c18505f56351920fc7483a2f5755cb830c7bd97148312eeecf07cc787d7"), looks := false }, kinds := [], alts := [], laidByText := true, laidKinds := [.data, .pinned], laidTests := true, laidLooks := .later }
def UsageTellsUptoCardSaid : Prop := Claim7.holds Tryd.pinned (.plain (OpenSpec.upto usageTellsSpec)) usageTellsUptoCard

/-- THE SECOND FORM's CARD OF 'montagelaw45.UsageGrows'. -/
def usageGrowsUptoCard : Claim7 := { stood := { row := usageGrowsUptoRow, standIns := [], harness := (true, "c5142c18505f56351920fc7483a2f5755cb830c7bd97148312eeecf07cc787d7"), looks := false }, kinds := [], alts := [], laidByText := true, laidKinds := [.data, .pinned], laidTests := true, laidLooks := .later }
def UsageGrowsUptoCardSaid : Prop := Claim7.holds Tryd.pinned (.plain (OpenSpec.upto usageGrowsSpec)) usageGrowsUptoCard

/-- THE SECOND FORM's CARD OF 'montagelaw45.UsageSums'. -/
def usageSumsUptoCard : Claim7 := { stood := { row := usageSumsUptoRow, standIns := [], harness := (true, "c5142c18505f56351920fc7483a2f5755cb830c7bd97148312eeecf07cc787d7"), looks := false }, kinds := [], alts := [], laidByText := true, laidKinds := [.data, .pinned], laidTests := true, laidLooks := .later }
def UsageSumsUptoCardSaid : Prop := Claim7.holds Tryd.pinned (.plain (OpenSpec.upto usageSumsSpec)) usageSumsUptoCard
end Rows
end Go.Proofs.YtglcbikbmobdpaaDoor
