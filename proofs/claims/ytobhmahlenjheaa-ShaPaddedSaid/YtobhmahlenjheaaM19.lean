/- A function without a body that hands its argument back; what comes of going through code, as a statement of what it leads to. -/
import Derived.Test.YtobhmahlenjheaaM18
import Derived.Laws.Externs
set_option linter.unusedSimpArgs false
set_option linter.unusedVariables false
namespace Go.Proofs.YtobhmahlenjheaaM
open Go Go.RowKit

variable {P : Program} {B : Nat}

def handsBack : List AV → AH → Option (AV × AH) := fun args h =>
  match args with
  | [x] => some (x, h)
  | _ => none

theorem HookOK.noEscape {f : FuncId} {fn : Func} (hf : P.funcs[f]? = some fn) (hname : (fn.name == "runtime.NumGoroutine") = false) (hb : fn.body.isNone = true) (hn : (Extern.findNext fn).isNone = true)
    (he : Extern.find fn = some Extern.AbiNoEscape.same) : HookOK P B f handsBack := by
  intro args h v h' hr φ w args' r ha
  unfold handsBack at hr
  split at hr
  · cases hr
    obtain ⟨x', rfl, hx⟩ := one_arg ha
    have hn' : Extern.findNext fn = none := by simpa using hn
    have := run_callFunc_extern hf hname hb hn' he #[x'] w
    rw [show ([x'] : List Value).toArray = #[x'] from rfl, this, Lib.run_noEscape]
    exact Res.pure r hx
  · cases hr
end Go.Proofs.YtobhmahlenjheaaM
