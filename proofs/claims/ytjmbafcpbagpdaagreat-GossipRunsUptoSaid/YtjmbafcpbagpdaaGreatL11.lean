/- Slices of a slice. -/
import Derived.Test.YtjmbafcpbagpdaaGreatL1
namespace Go.Proofs.YtjmbafcpbagpdaaGreat
open Go.RowKit
set_option linter.unusedVariables false

end Go.Proofs.YtjmbafcpbagpdaaGreat
