/- LockWord: the walk. -/
import Derived.Test.YtpakfelekphbmaaAwake18
namespace Go.Proofs.Ck
open Go Go.RowKit

end Go.Proofs.Ck
