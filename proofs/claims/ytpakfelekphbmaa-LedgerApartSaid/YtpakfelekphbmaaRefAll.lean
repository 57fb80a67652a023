/- The document's clients of a state; are two lists of numbers the same? -/
import Derived.Test.YtpakfelekphbmaaRef8
import Derived.Test.YtpakfelekphbmaaLawRow
import Derived.Deep.QuietTactic
import Derived.BigQuiet
namespace Go.Proofs.Ck
open Go Go.RowKit

end Go.Proofs.Ck
