/- Words: Up and Need. -/
import Derived.Test.YtpakfelekphbmaaWord
namespace Go.Proofs.Ck
open Go Go.RowKit
open Go.Proofs.Ytpakfelekphbmaa

theorem ones_pow (k : Nat) (h : k < 64) : ones (2 ^ k) = 1 := by
  have : ∀ k : Fin 64, ones (2 ^ k.val) = 1 := by decide +kernel
  exact this ⟨k, h⟩
theorem pow_lt (k : Nat) (h : k < 64) : 2 ^ k < 18446744073709551616 := by
  have : 2 ^ k < 2 ^ 64 := Nat.pow_lt_pow_right (by omega) h
  omega
theorem bits_low (n k : Nat) (hn : n < 18446744073709551616) (hk : k < 64) : bits .and .u64 (n : Int) (((2 ^ k : Nat) : Int) - 1) = ((n % 2 ^ k : Nat) : Int) := by
  have hp := Nat.two_pow_pos k
  have h := bits_and_u64_nat n (2 ^ k - 1) hn (by have := pow_lt k hk; omega)
  rw [Nat.and_two_pow_sub_one_eq_mod] at h
  rw [← h]
  congr 1
  omega
theorem bits_high (n k : Nat) (hn : n < 18446744073709551616) (hk : k < 64) : bits .andNot .u64 (n : Int) (((2 ^ k : Nat) : Int) - 1) = ((n - n % 2 ^ k : Nat) : Int) := by
  have hp := Nat.two_pow_pos k
  have hl := pow_lt k hk
  have e : (((2 ^ k : Nat) : Int) - 1) = ((2 ^ k - 1 : Nat) : Int) := by omega
  rw [e]
  have h1 : (BitVec.ofInt 64 (n : Int)).toNat = n := by
    rw [BitVec.ofInt_natCast, BitVec.toNat_ofNat]; exact Nat.mod_eq_of_lt (by omega)
  have h2 : (BitVec.ofInt 64 ((2 ^ k - 1 : Nat) : Int)).toNat = 2 ^ k - 1 := by
    rw [BitVec.ofInt_natCast, BitVec.toNat_ofNat]; exact Nat.mod_eq_of_lt (by omega)
  show IntKind.u64.wrap ((BitVec.ofInt 64 (n : Int) &&& ~~~ (BitVec.ofInt 64 ((2 ^ k - 1 : Nat) : Int))).toNat : Int) = _
  rw [BitVec.toNat_and, BitVec.toNat_not, h1, h2, IntKind.wrap_u64]
  have hk2 : n &&& (2 ^ 64 - 1 - (2 ^ k - 1)) = n - n % 2 ^ k := by
    have e3 : n - n % 2 ^ k = n >>> k <<< k := by
      rw [Nat.shiftRight_eq_div_pow, Nat.shiftLeft_eq]
      have := Nat.div_add_mod n (2 ^ k)
      rw [Nat.mul_comm] at this
      omega
    rw [e3, show 2 ^ 64 - 1 - (2 ^ k - 1) = 2 ^ 64 - ((2 ^ k - 1) + 1) from by omega]
    apply Nat.eq_of_testBit_eq
    intro i
    rw [Nat.testBit_and, Nat.testBit_two_pow_sub_succ (by omega), Nat.testBit_two_pow_sub_one, Nat.testBit_shiftLeft, Nat.testBit_shiftRight]
    by_cases hik : k ≤ i
    · rw [show k + (i - k) = i from by omega]
      by_cases hi : i < 64
      · simp [hik, hi, show ¬ i < k from by omega]
      · have : n.testBit i = false := Nat.testBit_lt_two_pow (Nat.lt_of_lt_of_le (by omega : n < 2 ^ 64) (Nat.pow_le_pow_right (by omega) (by omega)))
        simp [this]
    · simp [hik, show i < k from by omega]
  rw [hk2]
  omega

theorem up_bad (n a : Nat) (ha : a < 18446744073709551616) (h : ones a ≠ 1) (w : World) :
    Calls Try.prog 51 #[.int .u64 (n : Int), .int .u64 (a : Int)] w fun e w' => e = .returned (.tuple #[.int .u64 0, .bool false]) ∧ w = w' := by
  generalize hr : ones a = r at h
  have hc := ones_call a ha w
  rw [hr] at hc
  have t : ((r : Int) != 1) = true := by rw [bne_iff_ne]; omega
  go_enter Try.func51, Try.ntmps51
  go_wp2_with fail
  refine hc.mono ?_
  rintro e w' ⟨rfl, rfl⟩
  go_wp2
  go_ret2
  exact ⟨rfl, rfl⟩

theorem up_same (n k : Nat) (hn : n < 18446744073709551616) (hk : k < 64) (h : n % 2 ^ k = 0) (w : World) :
    Calls Try.prog 51 #[.int .u64 (n : Int), .int .u64 ((2 ^ k : Nat) : Int)] w fun e w' => e = .returned (.tuple #[.int .u64 (n : Int), .bool true]) ∧ w = w' := by
  have hc := ones_call (2 ^ k) (pow_lt k hk) w
  rw [ones_pow k hk] at hc
  have f1 := bits_low n k hn hk
  rw [h] at f1
  have hp := Nat.two_pow_pos k
  have hl := pow_lt k hk
  generalize 2 ^ k = a at *
  go_enter Try.func51, Try.ntmps51
  go_wp2_with fail
  refine hc.mono ?_
  rintro e w' ⟨rfl, rfl⟩
  go_wp2
  go_ret2
  exact ⟨rfl, rfl⟩
theorem up_next (n k : Nat) (hn : n < 18446744073709551616) (hk : k < 64) (h : n % 2 ^ k ≠ 0) (hs : n - n % 2 ^ k + 2 ^ k < 18446744073709551616) (w : World) :
    Calls Try.prog 51 #[.int .u64 (n : Int), .int .u64 ((2 ^ k : Nat) : Int)] w fun e w' => e = .returned (.tuple #[.int .u64 ((n - n % 2 ^ k + 2 ^ k : Nat) : Int), .bool true]) ∧ w = w' := by
  have hc := ones_call (2 ^ k) (pow_lt k hk) w
  rw [ones_pow k hk] at hc
  have f1 := bits_low n k hn hk
  have f2 := bits_high n k hn hk
  have ha := add_ok (n - n % 2 ^ k) (2 ^ k) hs w
  have hp := Nat.two_pow_pos k
  have hl := pow_lt k hk
  generalize n - n % 2 ^ k = m at *
  generalize n % 2 ^ k = r at *
  generalize 2 ^ k = a at *
  have t : ((r : Int) == 0) = false := by rw [beq_eq_false_iff_ne]; omega
  go_enter Try.func51, Try.ntmps51
  go_wp2_with fail
  refine hc.mono ?_
  rintro e w' ⟨rfl, rfl⟩
  go_wp2_with fail
  refine ha.mono ?_
  rintro e w' ⟨rfl, rfl⟩
  go_wp2
  go_ret2
  exact ⟨rfl, rfl⟩
theorem up_over (n k : Nat) (hn : n < 18446744073709551616) (hk : k < 64) (h : n % 2 ^ k ≠ 0) (hs : ¬ n - n % 2 ^ k + 2 ^ k < 18446744073709551616) (w : World) :
    Calls Try.prog 51 #[.int .u64 (n : Int), .int .u64 ((2 ^ k : Nat) : Int)] w fun e w' => e = .returned (.tuple #[.int .u64 0, .bool false]) ∧ w = w' := by
  have hc := ones_call (2 ^ k) (pow_lt k hk) w
  rw [ones_pow k hk] at hc
  have f1 := bits_low n k hn hk
  have f2 := bits_high n k hn hk
  have hl := pow_lt k hk
  have ha := add_bad (n - n % 2 ^ k) (2 ^ k) (by omega) hl hs w
  have hp := Nat.two_pow_pos k
  generalize n - n % 2 ^ k = m at *
  generalize n % 2 ^ k = r at *
  generalize 2 ^ k = a at *
  have t : ((r : Int) == 0) = false := by rw [beq_eq_false_iff_ne]; omega
  go_enter Try.func51, Try.ntmps51
  go_wp2_with fail
  refine hc.mono ?_
  rintro e w' ⟨rfl, rfl⟩
  go_wp2_with fail
  refine ha.mono ?_
  rintro e w' ⟨rfl, rfl⟩
  go_wp2
  go_ret2
  exact ⟨rfl, rfl⟩
end Go.Proofs.Ck
