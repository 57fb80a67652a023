/- The document's clients and lock: reading. -/
import Derived.Test.YtpakfelekphbmaaLock2
namespace Go.Proofs.Ck
open Go Go.RowKit

theorem RefF.agg {rv : Value} {f : Nat → Nat} {w : World} {X : Nat → Prop} (h : RefF rv f w X) : ∃ A n c B m d, rv = .agg #[.slice A n c, .slice B m d] := by
  obtain ⟨σ, A, c, B, d, h1, _⟩ := h
  exact ⟨A, _, c, B, _, d, h1⟩
theorem RefF.grow {rv : Value} {f : Nat → Nat} {w w' : World} {X : Nat → Prop} (h : RefF rv f w X) (hg : Grow w w') : RefF rv f w' X := stable_ref _ _ _ _ (Next.of_grow hg) h
theorem RefF.load {rv : Value} {f : Nat → Nat} {w : World} {X : Nat → Prop} (h : RefF rv f w X) (off : Nat) (ho : off < 18446744073709551616) :
    Calls Try.prog 157 #[rv, .int .u64 (off : Int)] w fun e w' => e = .returned (.int .u64 ((f off : Nat) : Int)) ∧ Grow w w' := by
  obtain ⟨σ, A, c, B, d, rfl, h1, h2, _, h3, h4, _, rfl⟩ := h
  exact rload h1 h2 off ho (by omega) (by omega)

/-- Who has the lock. -/
def hold (f : Nat → Nat) : Int × Bool := if 1 ≤ f 24 ∧ f 24 ≤ 8 then (((f 24 - 1 : Nat) : Int), true) else (0, false)
end Go.Proofs.Ck
