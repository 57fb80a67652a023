/- The clients' laws: awake. -/
import Derived.Test.YtpakfelekphbmaaLawRow
import Derived.Test.YtpakfelekphbmaaFormed100
namespace Go.Proofs.Ck
open Go Go.RowKit

end Go.Proofs.Ck
