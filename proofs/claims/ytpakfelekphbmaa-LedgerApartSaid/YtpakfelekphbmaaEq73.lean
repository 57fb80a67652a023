/- '==' of two words that are stored. -/
import Derived.Test.YtpakfelekphbmaaGSeg
import Derived.Test.YtpakfelekphbmaaRows
import Derived.Laws.StructEq
namespace Go.Proofs.Ck
open Go Go.RowKit
open Go.Proofs.Ytpakfelekphbmaa

end Go.Proofs.Ck
