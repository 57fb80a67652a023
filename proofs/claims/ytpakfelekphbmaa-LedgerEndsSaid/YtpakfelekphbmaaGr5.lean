/- The ledger's units, laid into the document: what that does. -/
import Derived.Test.YtpakfelekphbmaaGGr
import Derived.Test.YtpakfelekphbmaaRefDo
namespace Go.Proofs.Ck
open Go Go.RowKit

/-- May a unit be laid there? -/
def layB (E off s : Nat) (u : Bool) (o : Nat) : Bool := mayG s u o && inG E off s
/-- A unit laid. -/
def writeS (σ : St) (E off s : Nat) (u : Bool) (o : Nat) : St := if layB E off s u o = true then (σ.store off (packG s u o)).store (off + s - 8) (packG s u o) else σ
def writeE (E off s : Nat) (u : Bool) (o : Nat) : Nat := if layB E off s u o = true then 0 else 12
theorem inG_iff (E off s : Nat) : inG E off s = true ↔ off % 16 = 0 ∧ 3776 ≤ off ∧ off < E ∧ s ≤ E - off := by
  simp [inG]
theorem layB_iff (E off s : Nat) (u : Bool) (o : Nat) : layB E off s u o = true ↔ (s % 16 = 0 ∧ 48 ≤ s ∧ s ≤ 1048576 ∧ o ≤ 8 ∧ (u = true ∨ o = 0)) ∧ off % 16 = 0 ∧ 3776 ≤ off ∧ off < E ∧ s ≤ E - off := by
  rw [layB, Bool.and_eq_true, mayG_iff, inG_iff]
end Go.Proofs.Ck
