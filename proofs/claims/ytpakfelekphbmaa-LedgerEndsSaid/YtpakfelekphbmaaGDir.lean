/- Parts of the proofs of this seat's laws. -/
import Derived.Test.YtpakfelekphbmaaGName
import Derived.Test.YtpakfelekphbmaaGTx
import Derived.Test.YtpakfelekphbmaaGClient

namespace Go.Proofs.Ck
open Go Go.RowKit

/-- Where a slot begins. -/
def sl (i : Nat) : Nat := 3392 + 24 * (i % 16)
/-- A slot's payload, by its turn on a way. -/
def pay (f : Nat → Nat) (h i : Nat) : Nat := f (sl (h + i) + 16)
def hit (f : Nat → Nat) (h w0 w1 i : Nat) : Bool := decide (1 < pay f h i) && (decide (f (sl (h + i)) = w0) && decide (f (sl (h + i) + 8) = w1))
def halt (f : Nat → Nat) (h w0 w1 i : Nat) : Bool := decide (pay f h i = 0) || hit f h w0 w1 i
/-- A name's words, whether it is one, and its number. -/
def okN (s : ByteArray) : Bool := decide (1 ≤ s.size ∧ s.size ≤ 15)
def n0 (s : ByteArray) : Nat := if okN s = true then pk ((nm s).take 8) else 0
def n1 (s : ByteArray) : Nat := if okN s = true then pk ((nm s).drop 8) else 0
def hN (s : ByteArray) : Nat := hsum s.data.toList
end Go.Proofs.Ck

namespace Go.Proofs.Ck
open Go Go.RowKit

section
variable {f : Nat → Nat} {j k x y z : Nat}
end

end Go.Proofs.Ck

namespace Go.Proofs.Ck
open Go Go.RowKit

section
variable {f : Nat → Nat}
end

end Go.Proofs.Ck
