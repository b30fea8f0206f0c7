/- The first lines of the law: one closed run. -/
import Derived.Test.YtlpiiifmidehjaaDoorAA
import GoSem.PinnedTables
namespace Go.Proofs.YtlpiiifmidehjaaDoorM
open Go Go.RowKit
set_option maxRecDepth 100000
noncomputable section
def gv0 : List Int := Go.Pinned.utf8FirstZ.map Int.ofNat
def gv1 : List (Int × Int × Unit) := [(128, (191, ())), (160, (191, ())), (128, (159, ())), (144, (191, ())), (128, (143, ())), (0, (0, ())), (0, (0, ())), (0, (0, ())), (0, (0, ())), (0, (0, ())), (0, (0, ())), (0, (0, ())), (0, (0, ())), (0, (0, ())), (0, (0, ())), (0, (0, ()))]
def gT0 : Ty := .int .u8
def gT1 : Ty := .cons (.int .u8) (.cons (.int .u8) .nil)
def gl0 : List GVar := [⟨0, gT0, gv0⟩, ⟨1, gT1, gv1⟩]
def hg0 : AH := ⟨2, [some (.gvar 1 (gv1.map (encC gT1)).flatten), some (.gvar 0 (gv0.map (encC gT0)).flatten)]⟩
theorem hkIB {B : Nat} : HookOK Tryd.prog B 134 (fun args h => (kx_indexByte args).map fun v => (v, h)) := nat_indexByte Tryd.func134 rfl (by kernel_rfl) (by kernel_rfl) (by kernel_rfl)
theorem hkCB {B : Nat} : HookOK Tryd.prog B 113 (fun args h => (kx_countByte args).map fun v => (v, h)) := nat_countByte Tryd.func113 rfl (by kernel_rfl) (by kernel_rfl) (by kernel_rfl)
def KL : PureK := addK (addK (addK KA3 109 hb77) 134 kx_indexByte) 113 kx_countByte
theorem KLok {B : Nat} : KOK Tryd.prog B KL := KOK.add (KOK.add (KOK.add (CA3.ok B) hb_ok) hkIB) hkCB
theorem glh0 : ∀ id o, hg0.get id = some o → ∃ x ∈ gl0, x.g = id ∧ x.t.flat = true ∧ o = .gvar id (x.l.map (encC x.t)).flatten := by
  intro id o hg
  match id, hg with
  | 0, hg => cases hg; exact ⟨_, List.mem_cons_self .., rfl, rfl, rfl⟩
  | 1, hg => cases hg; exact ⟨_, List.mem_cons_of_mem _ (List.mem_cons_self ..), rfl, rfl, rfl⟩
  | id + 2, hg => exact absurd hg (by show (if id + 2 < 2 then _ else none) ≠ _; rw [if_neg (by omega)]; exact fun h => by cases h)
theorem gheap0 : GHeap hg0 := by
  intro id o hg
  match id, hg with
  | 0, hg => cases hg; exact ⟨_, rfl, by kernel_rfl⟩
  | 1, hg => cases hg; exact ⟨_, rfl, by kernel_rfl⟩
  | id + 2, hg => exact absurd hg (by show (if id + 2 < 2 then _ else none) ≠ _; rw [if_neg (by omega)]; exact fun h => by cases h)
theorem awake_run : (acall Tryd.prog (hooksOf KL) (drawnOf Tryd.prog (tabOf KL)) 300 12 [] hg0).map (·.1) = some (.bool true) := by kernel_rfl
def Wa0 : Aw := ⟨[12], hg0⟩
theorem wok0 : ∀ B, WOK Tryd.prog B Wa0 := by
  intro B f hf
  obtain rfl : f = 12 := by simpa [Wa0] using hf
  exact HookOK.awake (Γ := hooksOf KL) (D := drawnOf Tryd.prog (tabOf KL)) KLok.hooks (drawnOf_ok mixedV KLok.tab) noGoroutineV _ gheap0 awake_run
end
end Go.Proofs.YtlpiiifmidehjaaDoorM
