/- The reference's Encode. -/
import Derived.Test.YtcodpdpeklammaaDoorGC3
namespace Go.Proofs.YtcodpdpeklammaaDoor
set_option linter.unusedVariables false
set_option linter.unusedSimpArgs false
open Go Go.RowKit

end Go.Proofs.YtcodpdpeklammaaDoor
