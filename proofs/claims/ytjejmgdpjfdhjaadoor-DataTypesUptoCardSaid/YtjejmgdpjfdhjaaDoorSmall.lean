/- Bytes as a number: data.small: walk. -/
import Derived.Test.YtjejmgdpjfdhjaaDoorVal
namespace Go.Proofs.YtjejmgdpjfdhjaaDoor.small
open Go.RowKit Go.Proofs.YtjejmgdpjfdhjaaDoor.kit Go.Proofs.YtjejmgdpjfdhjaaDoor.val
set_option linter.unusedVariables false

end Go.Proofs.YtjejmgdpjfdhjaaDoor.small
