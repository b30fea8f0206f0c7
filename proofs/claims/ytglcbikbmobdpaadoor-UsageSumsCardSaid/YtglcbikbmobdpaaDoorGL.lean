/- Package variables, natives, and functions with hooks of their own. -/
import Derived.Test.YtglcbikbmobdpaaDoorVC
import GoSem.PinnedTables
namespace Go.Proofs.YtglcbikbmobdpaaDoorM
open Go Go.RowKit
set_option maxRecDepth 100000
set_option linter.unusedVariables false
noncomputable section
def gv0 : List Int := Go.Pinned.utf8FirstZ.map Int.ofNat
def gT0 : Ty := (.int .u8)
def gv1 : List (Int × (Int × Unit)) := [(128, (191, ())), (160, (191, ())), (128, (159, ())), (144, (191, ())), (128, (143, ())), (0, (0, ())), (0, (0, ())), (0, (0, ())), (0, (0, ())), (0, (0, ())), (0, (0, ())), (0, (0, ())), (0, (0, ())), (0, (0, ())), (0, (0, ())), (0, (0, ()))]
def gT1 : Ty := (.cons (.int .u8) (.cons (.int .u8) .nil))
def gl0 : List GVar := [⟨0, gT0, gv0⟩, ⟨1, gT1, gv1⟩]
def hg0 : AH := ⟨2, [some (.gvar 1 (gv1.map (encC gT1)).flatten), some (.gvar 0 (gv0.map (encC gT0)).flatten)]⟩
theorem hgl0 : ∀ x ∈ gl0, x.t.flat = true ∧ hg0.get x.g = some (.gvar x.g (x.l.map (encC x.t)).flatten) := by
  intro x hx
  simp only [gl0, List.mem_cons, List.mem_nil_iff, or_false] at hx
  rcases hx with rfl | rfl <;> exact ⟨rfl, rfl⟩
theorem gh0 : GHeap hg0 := by
  intro id o h
  have hlt := AH.get_lt h
  have hlt : id < 2 := hlt
  rcases id with _ | _ | id
  · have h : some (AO.gvar 0 (gv0.map (encC gT0)).flatten) = some o := h
    cases h
    exact ⟨_, rfl, by kernel_rfl⟩
  · have h : some (AO.gvar 1 (gv1.map (encC gT1)).flatten) = some o := h
    cases h
    exact ⟨_, rfl, by kernel_rfl⟩
  · omega
theorem hgr0 : ∀ id o, hg0.get id = some o → ∃ x ∈ gl0, x.g = id ∧ x.t.flat = true ∧ o = .gvar id (x.l.map (encC x.t)).flatten := by
  intro id o h
  have hlt := AH.get_lt h
  have hlt : id < 2 := hlt
  rcases id with _ | _ | id
  · have h : some (AO.gvar 0 (gv0.map (encC gT0)).flatten) = some o := h
    cases h
    exact ⟨⟨0, gT0, gv0⟩, by simp [gl0], rfl, rfl, rfl⟩
  · have h : some (AO.gvar 1 (gv1.map (encC gT1)).flatten) = some o := h
    cases h
    exact ⟨⟨1, gT1, gv1⟩, by simp [gl0], rfl, rfl, rfl⟩
  · omega
theorem noGoroutineV : Tryd.prog.funcs.all (fun fn => !(fn.name == "runtime.NumGoroutine")) = true := by kernel_rfl
theorem mixedV : Tryd.prog.follows .mixedOrders = true := by kernel_rfl
theorem hkIB {B : Nat} : HookOK Tryd.prog B 158 (fun args h => (kx_indexByte args).map fun v => (v, h)) := nat_indexByte Tryd.func158 rfl (by kernel_rfl) (by kernel_rfl) (by kernel_rfl)
theorem hkCB {B : Nat} : HookOK Tryd.prog B 150 (fun args h => (kx_countByte args).map fun v => (v, h)) := nat_countByte Tryd.func150 rfl (by kernel_rfl) (by kernel_rfl) (by kernel_rfl)
def Wa0 : Aw := ⟨[], fun f => fun _ _ => none⟩
theorem wok0 : ∀ B, WOK Tryd.prog B Wa0 := by
  intro B f hf
  cases hf
end
end Go.Proofs.YtglcbikbmobdpaaDoorM
