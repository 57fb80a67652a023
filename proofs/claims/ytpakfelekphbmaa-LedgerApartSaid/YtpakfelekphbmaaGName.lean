/- Parts of the proofs of this seat's laws. -/
import Derived.Test.YtpakfelekphbmaaGTx
import Derived.StillTailTactics
import Derived.Lib.Hide
import Derived.Laws.ResultCell
import Derived.Laws.Rows
import Derived.Test.YtpakfelekphbmaaGSeg
import Derived.Test.YtpakfelekphbmaaRows
import Derived.Laws.StructEq
import Derived.Lib.ConvBytes

namespace Go.Proofs.Ck
open Go Go.RowKit
open Go.Proofs.Ytpakfelekphbmaa

/-- A number out of its bytes, the least first. -/
def pk : List Nat → Nat
  | [] => 0
  | b :: l => b + 256 * pk l
end Go.Proofs.Ck

namespace Go.Proofs.Ck
open Go Go.RowKit
open Go.Proofs.Ytpakfelekphbmaa

/-- A name's bytes, behind their number. -/
def nm (s : ByteArray) : List Nat := s.size :: s.data.toList.map (·.toNat)
end Go.Proofs.Ck

namespace Go.Proofs.Ck
open Go Go.RowKit
open Go.Proofs.Ytpakfelekphbmaa

end Go.Proofs.Ck

namespace Go.Proofs.Ck
open Go Go.RowKit
open Go.Proofs.Ytpakfelekphbmaa

end Go.Proofs.Ck

namespace Go.Proofs.Ck
open Go Go.RowKit

/-- A byte of two words. -/
def dg (w0 w1 i : Nat) : Nat := byteOf (if i < 8 then w0 else w1) (i % 8)
/-- The bytes behind the first one, so many. -/
def bl (w0 w1 n : Nat) : List Nat := (List.range n).map fun i => dg w0 w1 (i + 1)
/-- Are two words a name's? -/
def isName (w0 w1 : Nat) : Prop := 1 ≤ dg w0 w1 0 ∧ dg w0 w1 0 ≤ 15 ∧ ∀ i, dg w0 w1 0 < i → i < 16 → dg w0 w1 i = 0
noncomputable instance (w0 w1 : Nat) : Decidable (isName w0 w1) := Classical.propDecidable _
end Go.Proofs.Ck

namespace Go.Proofs.Ck
open Go Go.RowKit

section
variable {P : Program}
end
end Go.Proofs.Ck

namespace Go.Proofs.Ck
open Go Go.RowKit

end Go.Proofs.Ck

namespace Go.Proofs.Ck
open Go Go.RowKit

end Go.Proofs.Ck

namespace Go.Proofs.Ck
open Go Go.RowKit

end Go.Proofs.Ck

namespace Go.Proofs.Ck
open Go Go.RowKit

end Go.Proofs.Ck
