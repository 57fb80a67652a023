/- Are two lists of words the same? -/
import Derived.Test.YtpakfelekphbmaaLawRow
import Derived.Test.YtpakfelekphbmaaEq73
import Derived.Deep.QuietTactic
import Derived.BigQuiet
namespace Go.Proofs.Ck
open Go Go.RowKit

end Go.Proofs.Ck
