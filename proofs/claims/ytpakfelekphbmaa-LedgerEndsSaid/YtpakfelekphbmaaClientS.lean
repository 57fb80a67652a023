/- Clients, word for word. -/
import Derived.Test.YtpakfelekphbmaaDo
namespace Go.Proofs.Ck
open Go Go.RowKit

section
variable {base : Nat} {M0 : Nat → Prop} {w0 w w' : World} {v : Value} {σ : St} {bx : List Bx} {K : World → (Nat → Prop) → Prop}
end
end Go.Proofs.Ck
