/- The ledger: small ones. -/
import Derived.Test.YtpakfelekphbmaaGGr
import Derived.Test.YtpakfelekphbmaaLawRow
namespace Go.Proofs.Ck
open Go Go.RowKit

/-- What stands at a place of a list, 0 beside it. -/
def atZ (l : List Nat) (k : Int) : Nat := if 0 ≤ k then l.getD k.toNat 0 else 0
set_option maxRecDepth 100000 in
theorem atZ_call {w : World} {B : Nat} {A : Option Addr} {n c : Nat} {l : List Nat} (hB : w.heap[B]? = some (.cells #[.slice A n c] 27 (0, 0))) (hn : l.length = n)
    (hc : ∀ j, j < n → ∃ a off, A = some ⟨a, off, none⟩ ∧ w.cell? ⟨a, off + j, none⟩ = some (.int .u64 ((l.getD j 0 : Nat) : Int))) (k : Int) :
    Calls Try.prog 166 #[.int .i64 k, .pointer (some ⟨B, 0, none⟩)] w fun e w' => e = .returned (.int .u64 ((atZ l k : Nat) : Int)) ∧ w = w' := by
  have b0 : w.cell? ⟨B, 0, none⟩ = some (.slice A n c) := by rw [cell_of_heap hB]; rfl
  unfold atZ
  by_cases h0 : 0 ≤ k
  · obtain ⟨j, rfl⟩ := Int.eq_ofNat_of_zero_le h0
    rw [if_pos h0, show ((j : Int)).toNat = j from rfl]
    have t0 : decide ((j : Int) < 0) = false := decide_eq_false (by omega)
    by_cases hj : j < n
    · have t1 : decide ((n : Int) ≤ (j : Int)) = false := decide_eq_false (by omega)
      have t2 : decide (n ≤ j) = false := decide_eq_false (by omega)
      obtain ⟨a, off, rfl, hcj⟩ := hc j hj
      have hix : (0 : Int) ≤ (j : Int) ∧ (j : Int) < (n : Int) := by omega
      clear hc hB
      generalize l.getD j 0 = y at *
      go_enter Try.func166, Try.ntmps166
      go_wp2
      go_ret
      exact ⟨rfl, rfl⟩
    · have t1 : decide ((n : Int) ≤ (j : Int)) = true := decide_eq_true (by omega)
      have t2 : decide (n ≤ j) = true := decide_eq_true (by omega)
      rw [show l.getD j 0 = 0 from by rw [List.getD_eq_getElem?_getD, List.getElem?_eq_none (by omega)]; rfl]
      clear hc hB
      go_enter Try.func166, Try.ntmps166
      go_wp2
      go_ret
      exact ⟨rfl, rfl⟩
  · rw [if_neg h0]
    have t0 : decide (k < 0) = true := decide_eq_true (by omega)
    clear hc hB
    go_enter Try.func166, Try.ntmps166
    go_wp2
    go_ret
    exact ⟨rfl, rfl⟩
end Go.Proofs.Ck
