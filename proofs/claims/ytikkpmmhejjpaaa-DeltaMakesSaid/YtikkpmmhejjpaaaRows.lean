/-
  No cell of these rows narrows 'for every input' (looked for: loops, veiled, ifaces, maps, wideKeys, modest, calm, conditions, laid).
  DERIVED. THE GIVEN ROWS OF THIS SEAT. 9 by the template 'for every input the law returns true; each argument reads behind the call as it read before'; 0 by the template 'total and deterministic' (their statements: YtikkpmmhejjpaaaTotals.lean).
  GIVEN WITH THE SEED: the statements are not yours to turn. If you find one false, say at which input.
  Laid BY PROGRAM, IN A SANDBOX (cutbox-rows.mjs): the forced cells as the released guide's own fill.sh prints them over the translation e373a5c2c82a4e8e… (all of the seat's roots in one cut). By AI agents, Wed Nov 11 2026. No macro, syntax, notation, axiom, sorry.
-/
import Derived.Test.YtikkpmmhejjpaaaChecked
import GoSem.Claim
import GoSem.ClaimJoined
import GoSem.ClaimMapViews
import Derived.JoinedTies
import Derived.KernelRfl
namespace Go.Proofs.Ytikkpmmhejjpaaa
/- THE CELL 'sum', in the pinned program and in every row, IS THE sha256 OF THE DUMP (.gsa) THAT YtikkpmmhejjpaaaProg.lean LOADS. Nothing in Lean hashes anything: it is a label: what it is worth is what the hold of that sum in a sandbox is worth. -/
noncomputable def Try.pinned : Pinned := { name := "ytikkpmmhejjpaaa", sum := "e373a5c2c82a4e8eb65010f44451cf57598100fd8dfae26af3dd2cbb6b634864", checked := Try.checked }
namespace Rows
def none {H : Type} : Left H := { results := [], args := [] }

/-- 'montagelaw02.FieldBack': WHATEVER THE INPUT: true; the input reads as it did. -/
def fieldBackSpec : ChangeSpec := { name := "fieldBack", fn := fun _ => fun
  | [d] => { results := [.lit (.bool true)], args := [d] }
  | _ => none }
def fieldBackRow : OpenClaim := { program := "ytikkpmmhejjpaaa", sum := "e373a5c2c82a4e8eb65010f44451cf57598100fd8dfae26af3dd2cbb6b634864", func := "montage/montagelaw02.FieldBack", spec := "fieldBack", apart := false }
def FieldBackSaid : Prop := fieldBackRow.holds Try.pinned (OpenSpec.ofChange fieldBackSpec)

/-- ITS FALSE NEIGHBOUR: 'it returns false'. Refute it at one input. -/
def fieldBackWrong : ChangeSpec := { name := "fieldBack", fn := fun _ => fun
  | [d] => { results := [.lit (.bool false)], args := [d] }
  | _ => none }
def FieldBackWrongFalsely : Prop := fieldBackRow.holds Try.pinned (OpenSpec.ofChange fieldBackWrong)

/-- 'montagelaw17.ExtraAny': WHATEVER THE INPUT: true; the input reads as it did. -/
def extraAnySpec : ChangeSpec := { name := "extraAny", fn := fun _ => fun
  | [d1, d2] => { results := [.lit (.bool true)], args := [d1, d2] }
  | _ => none }
def extraAnyRow : OpenClaim := { program := "ytikkpmmhejjpaaa", sum := "e373a5c2c82a4e8eb65010f44451cf57598100fd8dfae26af3dd2cbb6b634864", func := "montage/montagelaw17.ExtraAny", spec := "extraAny", inPlace := ["internal/abi.NoEscape"], apart := false }
def ExtraAnySaid : Prop := extraAnyRow.holds Try.pinned (OpenSpec.ofChange extraAnySpec)

/-- ITS FALSE NEIGHBOUR: 'it returns false'. Refute it at one input. -/
def extraAnyWrong : ChangeSpec := { name := "extraAny", fn := fun _ => fun
  | [d1, d2] => { results := [.lit (.bool false)], args := [d1, d2] }
  | _ => none }
def ExtraAnyWrongFalsely : Prop := extraAnyRow.holds Try.pinned (OpenSpec.ofChange extraAnyWrong)

/-- 'montagelaw17.ExtraBack': WHATEVER THE INPUT: true; the input reads as it did. -/
def extraBackSpec : ChangeSpec := { name := "extraBack", fn := fun _ => fun
  | [d] => { results := [.lit (.bool true)], args := [d] }
  | _ => none }
def extraBackRow : OpenClaim := { program := "ytikkpmmhejjpaaa", sum := "e373a5c2c82a4e8eb65010f44451cf57598100fd8dfae26af3dd2cbb6b634864", func := "montage/montagelaw17.ExtraBack", spec := "extraBack", inPlace := ["internal/abi.NoEscape"], apart := false }
def ExtraBackSaid : Prop := extraBackRow.holds Try.pinned (OpenSpec.ofChange extraBackSpec)

/-- ITS FALSE NEIGHBOUR: 'it returns false'. Refute it at one input. -/
def extraBackWrong : ChangeSpec := { name := "extraBack", fn := fun _ => fun
  | [d] => { results := [.lit (.bool false)], args := [d] }
  | _ => none }
def ExtraBackWrongFalsely : Prop := extraBackRow.holds Try.pinned (OpenSpec.ofChange extraBackWrong)

/-- 'montagelaw17.ExtraResolves': WHATEVER THE INPUT: true; the input reads as it did. -/
def extraResolvesSpec : ChangeSpec := { name := "extraResolves", fn := fun _ => fun
  | [d1, d2, d3] => { results := [.lit (.bool true)], args := [d1, d2, d3] }
  | _ => none }
def extraResolvesRow : OpenClaim := { program := "ytikkpmmhejjpaaa", sum := "e373a5c2c82a4e8eb65010f44451cf57598100fd8dfae26af3dd2cbb6b634864", func := "montage/montagelaw17.ExtraResolves", spec := "extraResolves", inPlace := ["internal/abi.NoEscape"], apart := false }
def ExtraResolvesSaid : Prop := extraResolvesRow.holds Try.pinned (OpenSpec.ofChange extraResolvesSpec)

/-- ITS FALSE NEIGHBOUR: 'it returns false'. Refute it at one input. -/
def extraResolvesWrong : ChangeSpec := { name := "extraResolves", fn := fun _ => fun
  | [d1, d2, d3] => { results := [.lit (.bool false)], args := [d1, d2, d3] }
  | _ => none }
def ExtraResolvesWrongFalsely : Prop := extraResolvesRow.holds Try.pinned (OpenSpec.ofChange extraResolvesWrong)

/-- 'montagelaw19.EndAny': WHATEVER THE INPUT: true; the input reads as it did. -/
def endAnySpec : ChangeSpec := { name := "endAny", fn := fun _ => fun
  | [d] => { results := [.lit (.bool true)], args := [d] }
  | _ => none }
def endAnyRow : OpenClaim := { program := "ytikkpmmhejjpaaa", sum := "e373a5c2c82a4e8eb65010f44451cf57598100fd8dfae26af3dd2cbb6b634864", func := "montage/montagelaw19.EndAny", spec := "endAny", apart := false }
def EndAnySaid : Prop := endAnyRow.holds Try.pinned (OpenSpec.ofChange endAnySpec)

/-- ITS FALSE NEIGHBOUR: 'it returns false'. Refute it at one input. -/
def endAnyWrong : ChangeSpec := { name := "endAny", fn := fun _ => fun
  | [d] => { results := [.lit (.bool false)], args := [d] }
  | _ => none }
def EndAnyWrongFalsely : Prop := endAnyRow.holds Try.pinned (OpenSpec.ofChange endAnyWrong)

/-- 'montagelaw19.EndBack': WHATEVER THE INPUT: true; the input reads as it did. -/
def endBackSpec : ChangeSpec := { name := "endBack", fn := fun _ => fun
  | [d] => { results := [.lit (.bool true)], args := [d] }
  | _ => none }
def endBackRow : OpenClaim := { program := "ytikkpmmhejjpaaa", sum := "e373a5c2c82a4e8eb65010f44451cf57598100fd8dfae26af3dd2cbb6b634864", func := "montage/montagelaw19.EndBack", spec := "endBack", apart := false }
def EndBackSaid : Prop := endBackRow.holds Try.pinned (OpenSpec.ofChange endBackSpec)

/-- ITS FALSE NEIGHBOUR: 'it returns false'. Refute it at one input. -/
def endBackWrong : ChangeSpec := { name := "endBack", fn := fun _ => fun
  | [d] => { results := [.lit (.bool false)], args := [d] }
  | _ => none }
def EndBackWrongFalsely : Prop := endBackRow.holds Try.pinned (OpenSpec.ofChange endBackWrong)

/-- 'montagelaw40.DeltaNumbers': WHATEVER THE INPUT: true; the input reads as it did. -/
def deltaNumbersSpec : ChangeSpec := { name := "deltaNumbers", fn := fun _ => fun
  | [d1, d2, d3] => { results := [.lit (.bool true)], args := [d1, d2, d3] }
  | _ => none }
def deltaNumbersRow : OpenClaim := { program := "ytikkpmmhejjpaaa", sum := "e373a5c2c82a4e8eb65010f44451cf57598100fd8dfae26af3dd2cbb6b634864", func := "montage/montagelaw40.DeltaNumbers", spec := "deltaNumbers", inPlace := ["internal/abi.NoEscape"], apart := false }
def DeltaNumbersSaid : Prop := deltaNumbersRow.holds Try.pinned (OpenSpec.ofChange deltaNumbersSpec)

/-- ITS FALSE NEIGHBOUR: 'it returns false'. Refute it at one input. -/
def deltaNumbersWrong : ChangeSpec := { name := "deltaNumbers", fn := fun _ => fun
  | [d1, d2, d3] => { results := [.lit (.bool false)], args := [d1, d2, d3] }
  | _ => none }
def DeltaNumbersWrongFalsely : Prop := deltaNumbersRow.holds Try.pinned (OpenSpec.ofChange deltaNumbersWrong)

/-- 'montagelaw40.DeltaMakes': WHATEVER THE INPUT: true; the input reads as it did. -/
def deltaMakesSpec : ChangeSpec := { name := "deltaMakes", fn := fun _ => fun
  | [d1, d2] => { results := [.lit (.bool true)], args := [d1, d2] }
  | _ => none }
def deltaMakesRow : OpenClaim := { program := "ytikkpmmhejjpaaa", sum := "e373a5c2c82a4e8eb65010f44451cf57598100fd8dfae26af3dd2cbb6b634864", func := "montage/montagelaw40.DeltaMakes", spec := "deltaMakes", inPlace := ["internal/abi.NoEscape"], apart := false }
def DeltaMakesSaid : Prop := deltaMakesRow.holds Try.pinned (OpenSpec.ofChange deltaMakesSpec)

/-- ITS FALSE NEIGHBOUR: 'it returns false'. Refute it at one input. -/
def deltaMakesWrong : ChangeSpec := { name := "deltaMakes", fn := fun _ => fun
  | [d1, d2] => { results := [.lit (.bool false)], args := [d1, d2] }
  | _ => none }
def DeltaMakesWrongFalsely : Prop := deltaMakesRow.holds Try.pinned (OpenSpec.ofChange deltaMakesWrong)

/-- 'montagelaw40.DeltaApplies': WHATEVER THE INPUT: true; the input reads as it did. -/
def deltaAppliesSpec : ChangeSpec := { name := "deltaApplies", fn := fun _ => fun
  | [d1, d2] => { results := [.lit (.bool true)], args := [d1, d2] }
  | _ => none }
def deltaAppliesRow : OpenClaim := { program := "ytikkpmmhejjpaaa", sum := "e373a5c2c82a4e8eb65010f44451cf57598100fd8dfae26af3dd2cbb6b634864", func := "montage/montagelaw40.DeltaApplies", spec := "deltaApplies", inPlace := ["internal/abi.NoEscape"], apart := false }
def DeltaAppliesSaid : Prop := deltaAppliesRow.holds Try.pinned (OpenSpec.ofChange deltaAppliesSpec)

/-- ITS FALSE NEIGHBOUR: 'it returns false'. Refute it at one input. -/
def deltaAppliesWrong : ChangeSpec := { name := "deltaApplies", fn := fun _ => fun
  | [d1, d2] => { results := [.lit (.bool false)], args := [d1, d2] }
  | _ => none }
def DeltaAppliesWrongFalsely : Prop := deltaAppliesRow.holds Try.pinned (OpenSpec.ofChange deltaAppliesWrong)

/- THE SECOND FORM. 'bulk': how many values and letters a reading holds, each counted each time it is reached (what is shared counts as often as it is met; a slice's spare places count too). A statement '..UptoSaid' is the law's where the arguments, and the package variables that the reading takes, are together of bulk at most 1048576: NARROWER than '..Said'. Prove '..Said' where nothing that the law and all that it calls make is longer than what came in: it says more and counts as full. Else prove '..UptoSaid'. A law counts once. -/
mutual
def uptoBulk {H : Type} : DataW H → Nat
  | .lit (.string bytes) => bytes.length + 1
  | .lit _ => 1
  | .nil => 1
  | .ptr d => uptoBulk d + 1
  | .slice elems spare => uptoBulkAll elems + uptoBulkAll spare + 1
  | .agg parts => uptoBulkAll parts + 1
  | .iface _ d => uptoBulk d + 1
  | .map entries => uptoBulkEntries entries + 1
  | .held _ => 1
def uptoBulkAll {H : Type} : List (DataW H) → Nat
  | [] => 0
  | d :: r => uptoBulk d + uptoBulkAll r
def uptoBulkEntries {H : Type} : List (Lit × DataW H) → Nat
  | [] => 0
  | x :: r => uptoBulkEntry x + uptoBulkEntries r
def uptoBulkEntry {H : Type} : Lit × DataW H → Nat
  | (.string bytes, d) => bytes.length + uptoBulk d + 1
  | (_, d) => uptoBulk d + 1
 end
def uptoSmall : (H : Type) → List (DataW H) → Bool := fun _ ds => decide (uptoBulkAll ds ≤ 1048576)
def OpenSpec.upto (s : _root_.Go.ChangeSpec) : _root_.Go.OpenSpec := { _root_.Go.OpenSpec.ofChange s with cond := some uptoSmall }

/-- 'montagelaw02.FieldBack', WHERE WHAT IT READS IS OF BULK AT MOST 1048576: true; the input reads as it did. -/
def fieldBackUptoRow : OpenClaim := { program := "ytikkpmmhejjpaaa", sum := "e373a5c2c82a4e8eb65010f44451cf57598100fd8dfae26af3dd2cbb6b634864", func := "montage/montagelaw02.FieldBack", spec := "fieldBack", apart := false, narrowed := true }
def FieldBackUptoSaid : Prop := fieldBackUptoRow.holds Try.pinned (OpenSpec.upto fieldBackSpec)

/-- 'montagelaw17.ExtraAny', WHERE WHAT IT READS IS OF BULK AT MOST 1048576: true; the input reads as it did. -/
def extraAnyUptoRow : OpenClaim := { program := "ytikkpmmhejjpaaa", sum := "e373a5c2c82a4e8eb65010f44451cf57598100fd8dfae26af3dd2cbb6b634864", func := "montage/montagelaw17.ExtraAny", spec := "extraAny", inPlace := ["internal/abi.NoEscape"], apart := false, narrowed := true }
def ExtraAnyUptoSaid : Prop := extraAnyUptoRow.holds Try.pinned (OpenSpec.upto extraAnySpec)

/-- 'montagelaw17.ExtraBack', WHERE WHAT IT READS IS OF BULK AT MOST 1048576: true; the input reads as it did. -/
def extraBackUptoRow : OpenClaim := { program := "ytikkpmmhejjpaaa", sum := "e373a5c2c82a4e8eb65010f44451cf57598100fd8dfae26af3dd2cbb6b634864", func := "montage/montagelaw17.ExtraBack", spec := "extraBack", inPlace := ["internal/abi.NoEscape"], apart := false, narrowed := true }
def ExtraBackUptoSaid : Prop := extraBackUptoRow.holds Try.pinned (OpenSpec.upto extraBackSpec)

/-- 'montagelaw17.ExtraResolves', WHERE WHAT IT READS IS OF BULK AT MOST 1048576: true; the input reads as it did. -/
def extraResolvesUptoRow : OpenClaim := { program := "ytikkpmmhejjpaaa", sum := "e373a5c2c82a4e8eb65010f44451cf57598100fd8dfae26af3dd2cbb6b634864", func := "montage/montagelaw17.ExtraResolves", spec := "extraResolves", inPlace := ["internal/abi.NoEscape"], apart := false, narrowed := true }
def ExtraResolvesUptoSaid : Prop := extraResolvesUptoRow.holds Try.pinned (OpenSpec.upto extraResolvesSpec)

/-- 'montagelaw19.EndAny', WHERE WHAT IT READS IS OF BULK AT MOST 1048576: true; the input reads as it did. -/
def endAnyUptoRow : OpenClaim := { program := "ytikkpmmhejjpaaa", sum := "e373a5c2c82a4e8eb65010f44451cf57598100fd8dfae26af3dd2cbb6b634864", func := "montage/montagelaw19.EndAny", spec := "endAny", apart := false, narrowed := true }
def EndAnyUptoSaid : Prop := endAnyUptoRow.holds Try.pinned (OpenSpec.upto endAnySpec)

/-- 'montagelaw19.EndBack', WHERE WHAT IT READS IS OF BULK AT MOST 1048576: true; the input reads as it did. -/
def endBackUptoRow : OpenClaim := { program := "ytikkpmmhejjpaaa", sum := "e373a5c2c82a4e8eb65010f44451cf57598100fd8dfae26af3dd2cbb6b634864", func := "montage/montagelaw19.EndBack", spec := "endBack", apart := false, narrowed := true }
def EndBackUptoSaid : Prop := endBackUptoRow.holds Try.pinned (OpenSpec.upto endBackSpec)

/-- 'montagelaw40.DeltaNumbers', WHERE WHAT IT READS IS OF BULK AT MOST 1048576: true; the input reads as it did. -/
def deltaNumbersUptoRow : OpenClaim := { program := "ytikkpmmhejjpaaa", sum := "e373a5c2c82a4e8eb65010f44451cf57598100fd8dfae26af3dd2cbb6b634864", func := "montage/montagelaw40.DeltaNumbers", spec := "deltaNumbers", inPlace := ["internal/abi.NoEscape"], apart := false, narrowed := true }
def DeltaNumbersUptoSaid : Prop := deltaNumbersUptoRow.holds Try.pinned (OpenSpec.upto deltaNumbersSpec)

/-- 'montagelaw40.DeltaMakes', WHERE WHAT IT READS IS OF BULK AT MOST 1048576: true; the input reads as it did. -/
def deltaMakesUptoRow : OpenClaim := { program := "ytikkpmmhejjpaaa", sum := "e373a5c2c82a4e8eb65010f44451cf57598100fd8dfae26af3dd2cbb6b634864", func := "montage/montagelaw40.DeltaMakes", spec := "deltaMakes", inPlace := ["internal/abi.NoEscape"], apart := false, narrowed := true }
def DeltaMakesUptoSaid : Prop := deltaMakesUptoRow.holds Try.pinned (OpenSpec.upto deltaMakesSpec)

/-- 'montagelaw40.DeltaApplies', WHERE WHAT IT READS IS OF BULK AT MOST 1048576: true; the input reads as it did. -/
def deltaAppliesUptoRow : OpenClaim := { program := "ytikkpmmhejjpaaa", sum := "e373a5c2c82a4e8eb65010f44451cf57598100fd8dfae26af3dd2cbb6b634864", func := "montage/montagelaw40.DeltaApplies", spec := "deltaApplies", inPlace := ["internal/abi.NoEscape"], apart := false, narrowed := true }
def DeltaAppliesUptoSaid : Prop := deltaAppliesUptoRow.holds Try.pinned (OpenSpec.upto deltaAppliesSpec)

end Rows
end Go.Proofs.Ytikkpmmhejjpaaa
