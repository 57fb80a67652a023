/- ClientGoes: the walk. -/
import Derived.Test.YtpakfelekphbmaaDo
namespace Go.Proofs.Ck
open Go Go.RowKit

section
variable {base : Nat} {M0 : Nat → Prop} {w0 w w' : World} {v : Value} {f g : Nat → Nat} {bx : List Bx} {K : World → (Nat → Prop) → Prop}
theorem Law.pointIs (h : Law base M0 w0 w v f bx K) {c o : Nat} (x : Nat) (hc : c < 8) (hx : x < 18446744073709551616) (ho : 64 + 416 * c + 8 = o) :
    Calls Try.prog 104 #[v, .int .i64 (c : Int), .int .u64 (x : Int)] w fun e w' => e = .returned (.tuple #[]) ∧ Law base M0 w0 w' v (upd f o x) bx K := by
  have := h.point (c : Int) x hx
  rwa [setF_of hc ho] at this
end
end Go.Proofs.Ck
