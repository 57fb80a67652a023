/- The lock, by what is loaded. -/
import Derived.Test.YtpakfelekphbmaaGClient
import Derived.Test.YtpakfelekphbmaaLockWord
namespace Go.Proofs.Ck
open Go Go.RowKit

section
variable {base : Nat} {M0 : Nat → Prop} {w0 w w' : World} {v : Value} {f : Nat → Nat} {bx : List Bx} {K : World → (Nat → Prop) → Prop}
end
end Go.Proofs.Ck
