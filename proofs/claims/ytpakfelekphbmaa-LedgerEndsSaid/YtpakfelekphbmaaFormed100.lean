/- A segment, formatted, and what is thought of over it, twice: the law's own function. -/
import Derived.Test.YtpakfelekphbmaaGTx
namespace Go.Proofs.Ck
open Go Go.RowKit

end Go.Proofs.Ck
