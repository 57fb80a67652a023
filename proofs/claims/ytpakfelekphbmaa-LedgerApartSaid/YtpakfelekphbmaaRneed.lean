/- Words: the document's Need. -/
import Derived.Test.YtpakfelekphbmaaRup
namespace Go.Proofs.Ck
open Go Go.RowKit
open Go.Proofs.Ytpakfelekphbmaa

theorem rneed_ok (n : Nat) (h : need n < 18446744073709551616) (w : World) :
    Calls Try.prog 59 #[.int .u64 (n : Int)] w fun e w' => e = .returned (.tuple #[.int .u64 ((need n : Nat) : Int), .bool true]) ∧ w = w' := by
  unfold need at *
  have hs : max n 8 + 40 < 18446744073709551616 := by omega
  have ha := radd_ok (max n 8) 40 hs w
  have hup : Calls Try.prog 72 #[.int .u64 ((max n 8 + 40 : Nat) : Int), .int .u64 16] w fun e w' => e = .returned (.tuple #[.int .u64 (((max n 8 + 55) / 16 * 16 : Nat) : Int), .bool true]) ∧ w = w' := by
    by_cases h0 : (max n 8 + 40) % 16 = 0
    · have := rup_same (max n 8 + 40) 4 (by omega) h0 w
      rwa [show (max n 8 + 55) / 16 * 16 = max n 8 + 40 from by omega]
    · have := rup_next (max n 8 + 40) 4 hs (by omega) h0 (by simp only [Nat.reducePow]; omega) w
      rw [show max n 8 + 40 - (max n 8 + 40) % 2 ^ 4 + 2 ^ 4 = (max n 8 + 55) / 16 * 16 from by simp only [Nat.reducePow]; omega] at this
      exact this
  generalize hs' : max n 8 + 40 = s at *
  generalize (max n 8 + 55) / 16 * 16 = r at *
  go_enter Try.func59, Try.ntmps59
  go_wp2_with fail
  case inr h8 =>
    rw [show max n 8 = n from by omega] at ha
    refine ha.mono ?_
    rintro e w' ⟨rfl, rfl⟩
    go_wp2_with fail
    refine hup.mono ?_
    rintro e w' ⟨rfl, rfl⟩
    go_wp2
    go_ret2
    exact ⟨rfl, rfl⟩
  case inl h8 =>
    rw [show max n 8 = 8 from by omega] at ha
    refine ha.mono ?_
    rintro e w' ⟨rfl, rfl⟩
    go_wp2_with fail
    refine hup.mono ?_
    rintro e w' ⟨rfl, rfl⟩
    go_wp2
    go_ret2
    exact ⟨rfl, rfl⟩

end Go.Proofs.Ck
