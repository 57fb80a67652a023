/- Clients: a deed. -/
import Derived.Test.YtpakfelekphbmaaAwake8
import Derived.Test.YtpakfelekphbmaaPuts
namespace Go.Proofs.Ck
open Go Go.RowKit

section
variable {base : Nat} {M0 : Nat → Prop} {w0 w w' : World} {v : Value} {f g : Nat → Nat} {bx : List Bx} {K : World → (Nat → Prop) → Prop}
end

end Go.Proofs.Ck
