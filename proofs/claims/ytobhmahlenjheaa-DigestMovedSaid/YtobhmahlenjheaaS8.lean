/- A text's builder: a letter written. -/
import Derived.Test.YtobhmahlenjheaaS7
set_option linter.unusedSimpArgs false
set_option linter.unusedVariables false
namespace Go.Proofs.YtobhmahlenjheaaM
open Go Go.RowKit
end Go.Proofs.YtobhmahlenjheaaM
