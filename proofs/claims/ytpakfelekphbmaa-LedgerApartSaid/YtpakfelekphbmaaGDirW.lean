/- Parts of the proofs of this seat's laws. -/
import Derived.Test.YtpakfelekphbmaaGSeg
import Derived.Deep.RegionHeld3
import Derived.Test.YtpakfelekphbmaaGDir
import Derived.Test.YtpakfelekphbmaaAll
import Derived.Test.YtpakfelekphbmaaGGr
import Derived.Test.YtpakfelekphbmaaLawRow
import Derived.Test.YtpakfelekphbmaaPuts

namespace Go.Proofs.Ck
open Go Go.RowKit

section
variable {P : Program} {ops : Array Oper} {md : Region.Mode} {Q : Exit → Act → World → Prop} {S : World → Prop} {l : Nat}

/-- The same outside a range over a function. -/
theorem region_plain {id : Nat} {a : Act} {w : World} (S : World → Prop) (hm : P.follows .mixedOrders = true) (hS : S w.drew)
    (h : S w.drew → wpAnyH P .any ops (NoPanic Q) S ops.size (Array.replicate ops.size false) a w.drew) : (Code.region id ops true).wp P Q a w :=
  wp_region_noPanic (wp_region_held_drew (S := S) hm hS h)
end
end Go.Proofs.Ck

namespace Go.Proofs.Ck
open Go Go.RowKit

attribute [local go_sem] Oper.semAt_some wide_fn wide_depth wide_in_fn wide_in_depth
end Go.Proofs.Ck

namespace Go.Proofs.Ck
open Go Go.RowKit

attribute [local go_sem] Oper.semAt_some wide_fn wide_depth wide_in_fn wide_in_depth
end Go.Proofs.Ck

namespace Go.Proofs.Ck
open Go Go.RowKit

section
variable {base : Nat} {M0 : Nat → Prop} {w0 w w' : World} {v : Value} {σ : St} {bx : List Bx} {K : World → (Nat → Prop) → Prop}
end
end Go.Proofs.Ck

namespace Go.Proofs.Ck
open Go Go.RowKit

attribute [local go_sem] Oper.semAt_some wide_fn wide_depth wide_in_fn wide_in_depth
end Go.Proofs.Ck

namespace Go.Proofs.Ck
open Go Go.RowKit

attribute [local go_sem] Oper.semAt_some wide_fn wide_depth wide_in_fn wide_in_depth
end Go.Proofs.Ck
