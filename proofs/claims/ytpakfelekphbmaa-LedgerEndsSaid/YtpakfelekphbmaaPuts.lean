/- Words that are thought of: all of them, in turn. -/
import Derived.Test.YtpakfelekphbmaaAll
namespace Go.Proofs.Ck
open Go Go.RowKit

section
variable {P : Program} {w : World} {mt kt et : TypeId} {mb clock : Nat} {es : Array MapEntry} {p : List (Nat × Nat)}
end
attribute [local go_sem] Oper.semAt_some wide_fn wide_depth wide_in_fn wide_in_depth

end Go.Proofs.Ck
