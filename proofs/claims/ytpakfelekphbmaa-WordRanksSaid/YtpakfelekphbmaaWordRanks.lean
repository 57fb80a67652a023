/- WordRanks: the walk. -/
import Derived.Test.YtpakfelekphbmaaAwake1
import Derived.Lib.Hide
namespace Go.Proofs.Ck
open Go Go.RowKit
open Go.Proofs.Ytpakfelekphbmaa

/-- A number's rank. -/
def rank (a : Nat) : Nat := a * 11400714819323198485 % 18446744073709551616
theorem rank_inj {a b : Nat} (ha : a < 18446744073709551616) (hb : b < 18446744073709551616) (h : rank a = rank b) : a = b := by
  unfold rank at h
  have h1 : ∀ x : Nat, x < 18446744073709551616 → x * 11400714819323198485 % 18446744073709551616 * 17428512612931826493 % 18446744073709551616 = x := by
    intro x hx
    rw [Nat.mod_mul_mod, Nat.mul_assoc]
    rw [show 11400714819323198485 * 17428512612931826493 = 10771413168148108919 * 18446744073709551616 + 1 from by decide]
    rw [Nat.mul_add, ← Nat.mul_assoc, Nat.mul_one, Nat.mul_add_mod_self_right, Nat.mod_eq_of_lt hx]
  rw [← h1 a ha, ← h1 b hb, h]
theorem rank_add (a b : Nat) : rank ((a + b) % 18446744073709551616) = (rank a + rank b) % 18446744073709551616 := by
  unfold rank
  rw [Nat.mod_mul_mod, Nat.add_mul, ← Nat.add_mod]

set_option maxRecDepth 100000 in
theorem wordRanks (w : World) (a b : Nat) (ha : a < 18446744073709551616) (hb : b < 18446744073709551616) :
    Calls Try.prog 7 #[.int .u64 (a : Int), .int .u64 (b : Int)] w fun e w' => e = .returned (.bool true) ∧ Grow w w' := by
  have e0 : IntKind.u64.wrap ((a : Int) + b) = (((a + b) % 18446744073709551616 : Nat) : Int) := by rw [IntKind.wrap_u64]; omega
  have q0 : IntKind.u64.wrap (((rank a : Nat) : Int) + ((rank b : Nat) : Int)) = ((rank ((a + b) % 18446744073709551616) : Nat) : Int) := by rw [IntKind.wrap_u64, rank_add]; omega
  have hi : a ≠ b → rank a ≠ rank b := fun h e => h (rank_inj ha hb e)
  have m0 : ∀ x w, Calls Try.prog 54 #[.int .u64 (x : Nat)] w fun e w' => e = .returned (.int .u64 ((rank x : Nat) : Int)) ∧ w = w' := mix
  go_enter Try.func7, Try.ntmps7
  go_wp2_with fail
  refine (awake1 w).mono ?_
  rintro e w1 ⟨rfl, hg⟩
  go_wp2_with fail
  refine (m0 a w1).mono ?_
  rintro e w' ⟨rfl, rfl⟩
  go_wp2_with fail
  refine (m0 b w1).mono ?_
  rintro e w' ⟨rfl, rfl⟩
  have M := m0 ((a + b) % 18446744073709551616) w1
  generalize (a + b) % 18446744073709551616 = s at *
  generalize hra : rank a = x at *
  generalize hrb : rank b = y at *
  generalize rank s = z at *
  by_cases hab : a = b
  · subst hab
    obtain rfl : x = y := hra.symm.trans hrb
    go_wp2_with fail
    refine M.mono ?_
    rintro e w' ⟨rfl, rfl⟩
    go_wp2_with fail
    refine (show Calls Try.prog 54 #[.int .u64 (a : Int)] w1 fun e w' => e = .returned (.int .u64 (x : Int)) ∧ w1 = w' from by rw [← hra]; exact m0 a w1).mono ?_
    rintro e w' ⟨rfl, rfl⟩
    go_wp2_with fail
    refine (show Calls Try.prog 54 #[.int .u64 (a : Int)] w1 fun e w' => e = .returned (.int .u64 (x : Int)) ∧ w1 = w' from by rw [← hra]; exact m0 a w1).mono ?_
    rintro e w' ⟨rfl, rfl⟩
    go_wp2
    go_ret
    exact ⟨rfl, hg⟩
  · have hxy := hi hab
    have t1 : ((x : Int) == y) = false := by rw [beq_eq_false_iff_ne]; omega
    have t2 : ((a : Int) == b) = false := by rw [beq_eq_false_iff_ne]; omega
    go_wp2_with fail
    refine M.mono ?_
    rintro e w' ⟨rfl, rfl⟩
    go_wp2_with fail
    refine (show Calls Try.prog 54 #[.int .u64 (a : Int)] w1 fun e w' => e = .returned (.int .u64 (x : Int)) ∧ w1 = w' from by rw [← hra]; exact m0 a w1).mono ?_
    rintro e w' ⟨rfl, rfl⟩
    go_wp2_with fail
    refine (show Calls Try.prog 54 #[.int .u64 (b : Int)] w1 fun e w' => e = .returned (.int .u64 (y : Int)) ∧ w1 = w' from by rw [← hrb]; exact m0 b w1).mono ?_
    rintro e w' ⟨rfl, rfl⟩
    go_wp2
    go_ret
    exact ⟨rfl, hg⟩
end Go.Proofs.Ck
