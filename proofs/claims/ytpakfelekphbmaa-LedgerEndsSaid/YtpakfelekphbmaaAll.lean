/- Clients: those of a state. -/
import Derived.Test.YtpakfelekphbmaaStates
namespace Go.Proofs.Ck
open Go Go.RowKit

attribute [local go_sem] Oper.semAt_some wide_fn wide_depth wide_in_fn wide_in_depth
end Go.Proofs.Ck
