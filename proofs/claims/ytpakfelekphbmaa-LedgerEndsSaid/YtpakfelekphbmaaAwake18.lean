/- The lock's laws: awake. -/
import Derived.Test.YtpakfelekphbmaaGClient
import Derived.Test.YtpakfelekphbmaaFormed74
import Derived.Test.YtpakfelekphbmaaEq73
namespace Go.Proofs.Ck
open Go Go.RowKit

end Go.Proofs.Ck
