/-
  DERIVED. GIVEN WITH THE SEED: THE CARDS: each row of YtikkpmmhejjpaaaDoorRows.lean that lists a variable, with what it lists TIED to the program's text (the seventh form; the later family's looks); each row that meets fmt, with fmt's text TOLD by the authors' own Lean function (tested against real Go, not proved from fmt's source: count such statements apart). THE CARD IS WHAT COUNTS. Prove the row's statement (the work); the ties are given (YtikkpmmhejjpaaaDoorTie.lean); close each card by the builder's one call (the guide's Derived/Test/ToyasCard.lean, 'card_holds'). Laid BY PROGRAM, IN A SANDBOX (cutbox-door.mjs). By AI agents, Wed Nov 11 2026. No macro, syntax, notation, axiom, sorry.
-/
import Derived.Test.YtikkpmmhejjpaaaDoorRows
import GoSem.ClaimSeven
namespace Go.Proofs.YtikkpmmhejjpaaaDoor
namespace Rows

/-- THE TIED CARD OF 'montagelaw14.FoldTexts'. -/
def foldTextsCard : Claim7 := { stood := { row := foldTextsRow, standIns := [], harness := (true, "54088c6192c67e0810769ab96da3d302440f82b6ce62b3ea0e7dfae8651dd600"), looks := false }, kinds := [], alts := [], laidByText := true, laidKinds := [.data, .pinned], laidTests := true, laidLooks := .later }
def FoldTextsCardSaid : Prop := Claim7.holds Tryd.pinned (.plain (OpenSpec.ofChange foldTextsSpec)) foldTextsCard

/-- THE TIED CARD OF 'montagelaw14.FoldSmall'. -/
def foldSmallCard : Claim7 := { stood := { row := foldSmallRow, standIns := [], harness := (true, "54088c6192c67e0810769ab96da3d302440f82b6ce62b3ea0e7dfae8651dd600"), looks := false }, kinds := [], alts := [], laidByText := true, laidKinds := [.data, .pinned], laidTests := true, laidLooks := .later }
def FoldSmallCardSaid : Prop := Claim7.holds Tryd.pinned (.plain (OpenSpec.ofChange foldSmallSpec)) foldSmallCard

/-- THE TIED CARD OF 'montagelaw14.FoldJoined'. -/
def foldJoinedCard : Claim7 := { stood := { row := foldJoinedRow, standIns := [], harness := (true, "54088c6192c67e0810769ab96da3d302440f82b6ce62b3ea0e7dfae8651dd600"), looks := false }, kinds := [], alts := [], laidByText := true, laidKinds := [.data, .pinned], laidTests := true, laidLooks := .later }
def FoldJoinedCardSaid : Prop := Claim7.holds Tryd.pinned (.plain (OpenSpec.ofChange foldJoinedSpec)) foldJoinedCard

/-- THE SECOND FORM's CARD OF 'montagelaw14.FoldTexts'. -/
def foldTextsUptoCard : Claim7 := { stood := { row := foldTextsUptoRow, standIns := [], harness := (true, "54088c6192c67e0810769ab96da3d302440f82b6ce62b3ea0e7dfae8651dd600"), looks := false }, kinds := [], alts := [], laidByText := true, laidKinds := [.data, .pinned], laidTests := true, laidLooks := .later }
def FoldTextsUptoCardSaid : Prop := Claim7.holds Tryd.pinned (.plain (OpenSpec.upto foldTextsSpec)) foldTextsUptoCard

/-- THE SECOND FORM's CARD OF 'montagelaw14.FoldSmall'. -/
def foldSmallUptoCard : Claim7 := { stood := { row := foldSmallUptoRow, standIns := [], harness := (true, "54088c6192c67e0810769ab96da3d302440f82b6ce62b3ea0e7dfae8651dd600"), looks := false }, kinds := [], alts := [], laidByText := true, laidKinds := [.data, .pinned], laidTests := true, laidLooks := .later }
def FoldSmallUptoCardSaid : Prop := Claim7.holds Tryd.pinned (.plain (OpenSpec.upto foldSmallSpec)) foldSmallUptoCard

/-- THE SECOND FORM's CARD OF 'montagelaw14.FoldJoined'. -/
def foldJoinedUptoCard : Claim7 := { stood := { row := foldJoinedUptoRow, standIns := [], harness := (true, "54088c6192c67e0810769ab96da3d302440f82b6ce62b3ea0e7dfae8651dd600"), looks := false }, kinds := [], alts := [], laidByText := true, laidKinds := [.data, .pinned], laidTests := true, laidLooks := .later }
def FoldJoinedUptoCardSaid : Prop := Claim7.holds Tryd.pinned (.plain (OpenSpec.upto foldJoinedSpec)) foldJoinedUptoCard
end Rows
end Go.Proofs.YtikkpmmhejjpaaaDoor
