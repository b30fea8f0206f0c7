/- A law's run, whatever its arguments hold. -/
import Derived.Test.YtlpiiifmidehjaaDoorV23
import Derived.Test.YtlpiiifmidehjaaDoorOP3v
set_option linter.unusedSimpArgs false
set_option linter.unusedVariables false
namespace Go.Proofs.YtlpiiifmidehjaaDoorM
open Go Go.RowKit

def gMof (hg : AH) : FM := gM fun id => match hg.get id with
  | some (.gvar _ c) => some c
  | _ => none

theorem law_args {P : Program} {gl : List GVar} {W : Aw} {K : PureK} {N : List FuncId} {es0 es : List VEnt} (C : Ch P gl W K N es0 es) {f : FuncId} {ts : List SH} {F : (Sh.mk ts []).D → Option (AltD [⟨[.pv .bool], []⟩])}
    (he : (⟨f, ⟨ts, []⟩, [⟨[.pv .bool], []⟩], F⟩ : VEnt) ∈ es) {p : (Sh.mk ts []).D} (hF : F p = some (true, ())) {w : World} {vs : List Value} (hg : AH)
    (hgl : ∀ x ∈ gl, x.t.flat = true ∧ hg.get x.g = some (.gvar x.g (x.l.map (encC x.t)).flatten)) (hgh : ∀ id o, hg.get id = some o → ∃ c, o = .gvar id c ∧ GIn w id c) (A : ArgsV w ts vs p)
    (hm : P.follows .mixedOrders = true) (hN : P.funcs.all (fun fn => !(fn.name == "runtime.NumGoroutine")) = true) {fn : Func} {c : Code} (hf : P.funcs[f]? = some fn) (hb : fn.body = some c) (hn : (fn.name == "runtime.NumGoroutine") = false) :
    Calls P f vs.toArray w fun e w' => e = .returned (.bool true) ∧ Below w.heap.size w w' := by
  have S0 : St w hg (fun id => ⟨id, 0, 0⟩) (gMof hg) := by
    refine ⟨fun id o ho => ?_, ⟨fun id c hc => (by cases hc), fun id c hc => ?_⟩⟩
    · obtain ⟨c, rfl, G⟩ := hgh id o ho
      exact ⟨rfl, G.obj _ _ rfl⟩
    · have hc : (match hg.get id with | some (.gvar _ c) => some c | _ => none) = some c := hc
      split at hc
      · rename_i j c' hj
        cases hc
        obtain ⟨c2, e2, _⟩ := hgh id _ hj
        cases e2
        exact hj
      · cases hc
  have hG : GOK (gMof hg) gl := fun x hx => by
    obtain ⟨h1, h2⟩ := hgl x hx
    refine ⟨x.l.map (encC x.t), ?_, all2_ofEnc h1 _⟩
    show (match hg.get x.g with | some (.gvar _ c) => some c | _ => none) = _
    rw [h2]
  obtain ⟨h', φ', g', as, S', L, E, k⟩ := A.place S0
  obtain ⟨n, h1, e⟩ := law_V C he hF (hG.mono L.g) S'.ok (fun id c hc => by rw [L.g.b]; trivial) E
  exact law_of_run (φ := φ') (args := as) (args' := vs) (hooksW_ok (C.wok _) (C.ok _)) (drawnOf_ok hm (C.ok _).tab) hN e
    ⟨fun id o hg => (S'.ob id o hg).2, fun id o hg hw => (by rw [(S'.ob id o hg).1] at hw; cases hw), fun i j o p hi hj hw _ _ => (by rw [(S'.ob i o hi).1] at hw; cases hw), Nat.le_refl _⟩
    (fun id o hg => (S'.ob id o hg).1) k hf hb hn
end Go.Proofs.YtlpiiifmidehjaaDoorM
