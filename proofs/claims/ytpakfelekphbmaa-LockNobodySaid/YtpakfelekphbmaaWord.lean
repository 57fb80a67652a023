/- Words: Add, Words, Mix, OnesCount64. -/
import Derived.Test.YtpakfelekphbmaaBase
import Derived.Test.YtpakfelekphbmaaRows
import Derived.Laws.Externs
import Derived.Laws.Bits64b
namespace Go.Proofs.Ck
open Go Go.RowKit
open Go.Proofs.Ytpakfelekphbmaa

theorem add64_0 (x y : Int) (hx : 0 ≤ x) (hy : 0 ≤ y) (w : World) : (callFunc 150 #[.int .u64 x, .int .u64 y, .int .u64 0]).run Try.prog w =
    .ok (.value (.tuple #[.int .u64 ((x + y) % 18446744073709551616), .int .u64 ((x + y) / 18446744073709551616)])) w := by
  rw [run_callFunc_extern Try.func150 (by kernel_rfl) (by kernel_rfl) (by kernel_rfl) (e := add64Entry) (by kernel_rfl), run_add64 x y 0 hx hy (by omega) (by omega)]
  simp only [Result.andThen, Int.add_zero]

theorem add_ok (x y : Nat) (h : x + y < 18446744073709551616) (w : World) :
    Calls Try.prog 68 #[.int .u64 (x : Int), .int .u64 (y : Int)] w fun e w' => e = .returned (.tuple #[.int .u64 ((x + y : Nat) : Int), .bool true]) ∧ w = w' := by
  have e1 : ((x : Int) + y) / 18446744073709551616 = 0 := by omega
  have e2 : ((x : Int) + y) % 18446744073709551616 = ((x + y : Nat) : Int) := by omega
  go_enter Try.func68, Try.ntmps68
  go_wp2_with (simp only [add64_0 (x : Int) (y : Int) (by omega) (by omega), e1, e2])
  go_ret2
  exact ⟨rfl, rfl⟩
theorem add_bad (x y : Nat) (hx : x < 18446744073709551616) (hy : y < 18446744073709551616) (h : ¬ x + y < 18446744073709551616) (w : World) :
    Calls Try.prog 68 #[.int .u64 (x : Int), .int .u64 (y : Int)] w fun e w' => e = .returned (.tuple #[.int .u64 0, .bool false]) ∧ w = w' := by
  have e1 : ((x : Int) + y) / 18446744073709551616 = 1 := by omega
  go_enter Try.func68, Try.ntmps68
  go_wp2_with (simp only [add64_0 (x : Int) (y : Int) (by omega) (by omega), e1])
  go_ret2
  exact ⟨rfl, rfl⟩
theorem mix (x : Nat) (w : World) :
    Calls Try.prog 54 #[.int .u64 (x : Int)] w fun e w' => e = .returned (.int .u64 ((x * 11400714819323198485 % 18446744073709551616 : Nat) : Int)) ∧ w = w' := by
  go_enter Try.func54, Try.ntmps54
  go_wp2
  go_ret
  exact ⟨by rw [IntKind.wrap_u64]; simp, rfl⟩
theorem words_call (n : Nat) (hn : n < 18446744073709551616) (w : World) :
    Calls Try.prog 53 #[.int .u64 (n : Int)] w fun e w' => e = .returned (.int .u64 (((n + 7) / 8 : Nat) : Int)) ∧ w = w' := by
  go_enter Try.func53, Try.ntmps53
  go_wp2
  all_goals
    go_ret
    exact ⟨by simp; omega, rfl⟩

/-- The sum of the bits, as the library reckons it. -/
def y1 (x : Nat) : Nat := (x / 2 &&& 6148914691236517205) + (x &&& 6148914691236517205)
def y2 (x : Nat) : Nat := (x / 4 &&& 3689348814741910323) + (x &&& 3689348814741910323)
def y3 (x : Nat) : Nat := (x / 16 + x) &&& 1085102592571150095
def y4 (x : Nat) : Nat := x + x / 256
def y5 (x : Nat) : Nat := x + x / 65536
def y6 (x : Nat) : Nat := x + x / 4294967296
def ones (x : Nat) : Nat := y6 (y5 (y4 (y3 (y2 (y1 x))))) &&& 127

theorem bits_and_i64_nat (a b : Nat) (ha : a < 9223372036854775808) (hb : b < 9223372036854775808) : bits .and .i64 (a : Int) (b : Int) = ((a &&& b : Nat) : Int) := by
  have hx : a &&& b < 2 ^ 63 := Nat.and_lt_two_pow _ (by omega)
  have h1 : (BitVec.ofInt 64 (a : Int)).toNat = a := by
    rw [BitVec.ofInt_natCast, BitVec.toNat_ofNat]; exact Nat.mod_eq_of_lt (by omega)
  have h2 : (BitVec.ofInt 64 (b : Int)).toNat = b := by
    rw [BitVec.ofInt_natCast, BitVec.toNat_ofNat]; exact Nat.mod_eq_of_lt (by omega)
  show IntKind.i64.wrap ((BitVec.ofInt 64 (a : Int) &&& BitVec.ofInt 64 (b : Int)).toNat : Int) = _
  rw [BitVec.toNat_and, h1, h2, IntKind.wrap_i64]
  omega

set_option maxRecDepth 100000 in
theorem ones_call (x : Nat) (hx : x < 18446744073709551616) (w : World) :
    Calls Try.prog 143 #[.int .u64 (x : Int)] w fun e w' => e = .returned (.int .i64 ((ones x : Nat) : Int)) ∧ w = w' := by
  have f1 : bits .and .u64 ((x : Int) / 2) 6148914691236517205 = ((x / 2 &&& 6148914691236517205 : Nat) : Int) := bits_and_u64_nat (x / 2) 6148914691236517205 (by omega) (by omega)
  have f2 : bits .and .u64 (x : Int) 6148914691236517205 = ((x &&& 6148914691236517205 : Nat) : Int) := bits_and_u64_nat x 6148914691236517205 hx (by omega)
  have b1 : x / 2 &&& 6148914691236517205 ≤ 6148914691236517205 := Nat.and_le_right
  have b2 : x &&& 6148914691236517205 ≤ 6148914691236517205 := Nat.and_le_right
  have hy : y1 x = (x / 2 &&& 6148914691236517205) + (x &&& 6148914691236517205) := rfl
  unfold ones
  rw [hy]
  generalize x / 2 &&& 6148914691236517205 = a1 at f1 b1
  generalize x &&& 6148914691236517205 = a2 at f2 b2
  clear hy
  have f3 : bits .and .u64 (((a1 : Int) + a2) / 4) 3689348814741910323 = (((a1 + a2) / 4 &&& 3689348814741910323 : Nat) : Int) := bits_and_u64_nat ((a1 + a2) / 4) 3689348814741910323 (by omega) (by omega)
  have f4 : bits .and .u64 ((a1 : Int) + a2) 3689348814741910323 = ((a1 + a2 &&& 3689348814741910323 : Nat) : Int) := bits_and_u64_nat (a1 + a2) 3689348814741910323 (by omega) (by omega)
  have b3 : (a1 + a2) / 4 &&& 3689348814741910323 ≤ 3689348814741910323 := Nat.and_le_right
  have b4 : a1 + a2 &&& 3689348814741910323 ≤ 3689348814741910323 := Nat.and_le_right
  have hy : y2 (a1 + a2) = ((a1 + a2) / 4 &&& 3689348814741910323) + (a1 + a2 &&& 3689348814741910323) := rfl
  rw [hy]
  generalize (a1 + a2) / 4 &&& 3689348814741910323 = a3 at f3 b3
  generalize a1 + a2 &&& 3689348814741910323 = a4 at f4 b4
  clear hy
  have f5 : bits .and .u64 (((a3 : Int) + a4) / 16 + (a3 + a4)) 1085102592571150095 = (((a3 + a4) / 16 + (a3 + a4) &&& 1085102592571150095 : Nat) : Int) := bits_and_u64_nat ((a3 + a4) / 16 + (a3 + a4)) 1085102592571150095 (by omega) (by omega)
  have b5 : (a3 + a4) / 16 + (a3 + a4) &&& 1085102592571150095 ≤ 1085102592571150095 := Nat.and_le_right
  have hy : y3 (a3 + a4) = (a3 + a4) / 16 + (a3 + a4) &&& 1085102592571150095 := rfl
  rw [hy]
  generalize (a3 + a4) / 16 + (a3 + a4) &&& 1085102592571150095 = a5 at f5 b5
  clear hy
  have f6 : bits .and .i64 ((a5 : Int) + a5 / 256 + ((a5 : Int) + a5 / 256) / 65536 + ((a5 : Int) + a5 / 256 + ((a5 : Int) + a5 / 256) / 65536) / 4294967296) 127 = ((y6 (y5 (y4 a5)) &&& 127 : Nat) : Int) := by
    have := bits_and_i64_nat (y6 (y5 (y4 a5))) 127 (by unfold y6 y5 y4; omega) (by omega)
    rw [← this]
    unfold y6 y5 y4
    simp
  generalize y6 (y5 (y4 a5)) &&& 127 = r at f6
  go_enter Try.func143, Try.ntmps143
  go_wp2
  go_ret
  exact ⟨rfl, rfl⟩
end Go.Proofs.Ck
