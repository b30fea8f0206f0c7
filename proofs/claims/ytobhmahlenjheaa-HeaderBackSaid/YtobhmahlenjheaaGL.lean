/- Package variables, natives, and functions with hooks of their own. -/
import Derived.Test.YtobhmahlenjheaaVC
import GoSem.PinnedTables
namespace Go.Proofs.YtobhmahlenjheaaM
open Go Go.RowKit
set_option maxRecDepth 100000
set_option linter.unusedVariables false
noncomputable section
def gl0 : List GVar := []
def hg0 : AH := ⟨0, []⟩
theorem hgl0 : ∀ x ∈ gl0, x.t.flat = true ∧ hg0.get x.g = some (.gvar x.g (x.l.map (encC x.t)).flatten) := by
  intro x hx; cases hx
theorem gh0 : GHeap hg0 := by
  intro id o h
  have hlt := AH.get_lt h
  have hlt : id < 0 := hlt
  omega
theorem hgr0 : ∀ id o, hg0.get id = some o → ∃ x ∈ gl0, x.g = id ∧ x.t.flat = true ∧ o = .gvar id (x.l.map (encC x.t)).flatten := by
  intro id o h
  have hlt := AH.get_lt h
  have hlt : id < 0 := hlt
  omega
theorem noGoroutineV : Try.prog.funcs.all (fun fn => !(fn.name == "runtime.NumGoroutine")) = true := by kernel_rfl
theorem mixedV : Try.prog.follows .mixedOrders = true := by kernel_rfl
def Wa0 : Aw := ⟨[], fun f => fun _ _ => none⟩
theorem wok0 : ∀ B, WOK Try.prog B Wa0 := by
  intro B f hf
  cases hf
end
end Go.Proofs.YtobhmahlenjheaaM
