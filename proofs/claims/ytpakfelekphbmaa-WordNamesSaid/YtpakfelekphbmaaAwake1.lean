/- Words: awake. -/
import Derived.Test.YtpakfelekphbmaaPack
import Derived.Test.YtpakfelekphbmaaEq
namespace Go.Proofs.Ck
open Go Go.RowKit
open Go.Proofs.Ytpakfelekphbmaa

set_option maxRecDepth 100000 in
theorem awake1 (w : World) : Calls Try.prog 50 #[] w fun e w' => e = .returned (.bool true) ∧ Grow w w' := by
  go_enter Try.func50, Try.ntmps50
  go_wp2_with fail
  refine (need_ok 8 (by decide) w).mono ?_
  rintro e w' ⟨rfl, rfl⟩
  rw [show ((need 8 : Nat) : Int) = 48 from rfl]
  go_wp2_with fail
  refine (need_ok 9 (by decide) w).mono ?_
  rintro e w' ⟨rfl, rfl⟩
  rw [show ((need 9 : Nat) : Int) = 64 from rfl]
  go_wp2_with fail
  refine (up_next 17 4 (by omega) (by omega) (by decide) (by decide) w).mono ?_
  rintro e w' ⟨rfl, rfl⟩
  rw [show ((17 - 17 % 2 ^ 4 + 2 ^ 4 : Nat) : Int) = 32 from rfl]
  go_wp2_with fail
  refine (pack_ok _ (by decide) (by decide) w).mono ?_
  rintro e w1 ⟨rfl, hg⟩
  rw [show packed (nm { data := #[97, 98] }) = #[.int .u64 6447362, .int .u64 0] from rfl]
  go_wp2_with fail
  refine (words_call 9 (by omega) _).mono ?_
  rintro e w' ⟨rfl, rfl⟩
  rw [show (((9 + 7) / 8 : Nat) : Int) = 2 from rfl]
  go_wp2
  go_ret
  exact ⟨rfl, Below.alloc hg hg.size _⟩
end Go.Proofs.Ck
