/- Words: Mul, and WordSums' pairs. -/
import Derived.Test.YtpakfelekphbmaaPop
import Derived.Test.YtpakfelekphbmaaWordNeeds
import Derived.Shelf.Bits.Mul64
namespace Go.Proofs.Ck
open Go Go.RowKit
open Go.Proofs.Ytpakfelekphbmaa

set_option maxHeartbeats 1000000 in
theorem mul64 (x y : Nat) (hx : x < 18446744073709551616) (hy : y < 18446744073709551616) (w : World) :
    Calls Try.prog 151 #[.int .u64 x, .int .u64 y] w fun e w' => e = .returned (.tuple #[.int .u64 ((x * y / 18446744073709551616 : Nat) : Int), .int .u64 ((x * y % 18446744073709551616 : Nat) : Int)]) ∧ w = w' := by
  obtain ⟨bd, bt, bw, hhi⟩ := Lib.mul64_hi x y hx hy
  have ba := Lib.half_mul_le (a := x / 4294967296) (b := y / 4294967296) (by omega) (by omega)
  have bb := Lib.half_mul_le (a := x / 4294967296) (b := y % 4294967296) (by omega) (by omega)
  have bc := Lib.half_mul_le (a := x % 4294967296) (b := y / 4294967296) (by omega) (by omega)
  have ba' : x / 4294967296 * (y / 4294967296) < 18446744073709551616 := by omega
  have bb' : x / 4294967296 * (y % 4294967296) < 18446744073709551616 := by omega
  have bc' : x % 4294967296 * (y / 4294967296) < 18446744073709551616 := by omega
  have bh1 : x / 4294967296 * (y / 4294967296) + (x / 4294967296 * (y % 4294967296) + x % 4294967296 * (y % 4294967296) / 4294967296) / 4294967296 < 18446744073709551616 := by omega
  have bh : x / 4294967296 * (y / 4294967296) + (x / 4294967296 * (y % 4294967296) + x % 4294967296 * (y % 4294967296) / 4294967296) / 4294967296 + ((x / 4294967296 * (y % 4294967296) + x % 4294967296 * (y % 4294967296) / 4294967296) % 4294967296 + x % 4294967296 * (y / 4294967296)) / 4294967296 < 18446744073709551616 := by omega
  go_enter Try.func151, Try.ntmps151
  go_wp2
  simp only [Mul64.maskN x hx, Mul64.maskN y hy, Mul64.divN, Mul64.mulN, Mul64.addN, Mul64.wrapN _ bd, Mul64.wrapN _ bb', Mul64.wrapN _ bt, Mul64.maskN _ bt, Mul64.wrapN _ bc', Mul64.wrapN _ bw, Mul64.wrapN _ ba', Mul64.wrapN _ bh1, Mul64.wrapN _ bh, Mul64.wrapM (x * y)]
  rw [hhi]
  go_ret2
  exact ⟨rfl, rfl⟩

theorem mul_ok (x y : Nat) (hx : x < 18446744073709551616) (hy : y < 18446744073709551616) (h : x * y < 18446744073709551616) (w : World) :
    Calls Try.prog 70 #[.int .u64 (x : Int), .int .u64 (y : Int)] w fun e w' => e = .returned (.tuple #[.int .u64 ((x * y : Nat) : Int), .bool true]) ∧ w = w' := by
  have c := mul64 x y hx hy w
  rw [Nat.div_eq_of_lt h, Nat.mod_eq_of_lt h] at c
  generalize x * y = p at *
  go_enter Try.func70, Try.ntmps70
  go_wp2_with fail
  refine c.mono ?_
  rintro e w' ⟨rfl, rfl⟩
  go_wp2
  go_ret2
  exact ⟨rfl, rfl⟩
theorem mul_bad (x y : Nat) (hx : x < 18446744073709551616) (hy : y < 18446744073709551616) (h : ¬ x * y < 18446744073709551616) (w : World) :
    Calls Try.prog 70 #[.int .u64 (x : Int), .int .u64 (y : Int)] w fun e w' => e = .returned (.tuple #[.int .u64 0, .bool false]) ∧ w = w' := by
  have c := mul64 x y hx hy w
  generalize x * y = p at *
  have hq : 0 < p / 18446744073709551616 := by omega
  generalize p / 18446744073709551616 = q at *
  generalize p % 18446744073709551616 = r at *
  have t : ((q : Int) != 0) = true := by rw [bne_iff_ne]; omega
  go_enter Try.func70, Try.ntmps70
  go_wp2_with fail
  refine c.mono ?_
  rintro e w' ⟨rfl, rfl⟩
  go_wp2
  go_ret2
  exact ⟨rfl, rfl⟩
theorem over_iff {x y : Nat} (hx : 0 < x) : 18446744073709551615 / x < y ↔ ¬ x * y < 18446744073709551616 := by
  rw [Nat.div_lt_iff_lt_mul hx, Nat.mul_comm]
  omega
theorem rmul_ok (x y : Nat) (h : x * y < 18446744073709551616) (w : World) :
    Calls Try.prog 71 #[.int .u64 (x : Int), .int .u64 (y : Int)] w fun e w' => e = .returned (.tuple #[.int .u64 ((x * y : Nat) : Int), .bool true]) ∧ w = w' := by
  have e : IntKind.u64.wrap ((x : Int) * y) = ((x * y : Nat) : Int) := by rw [IntKind.wrap_u64, ← Int.natCast_mul]; omega
  rcases Nat.eq_zero_or_pos x with rfl | hx
  · go_enter Try.func71, Try.ntmps71
    go_wp2
    go_ret2
    exact ⟨by simp, rfl⟩
  · have t0 : ((x : Int) != 0) = true := by rw [bne_iff_ne]; omega
    have t1 : decide ((18446744073709551615 : Int) / x < y) = false := by
      apply decide_eq_false
      have := mt (over_iff (y := y) hx).1 (fun k => k h)
      have e2 : (18446744073709551615 : Int) / x = ((18446744073709551615 / x : Nat) : Int) := by simp
      rw [e2]
      omega
    generalize x * y = p at *
    go_enter Try.func71, Try.ntmps71
    go_wp2
    go_ret2
    exact ⟨rfl, rfl⟩
theorem rmul_bad (x y : Nat) (h : ¬ x * y < 18446744073709551616) (w : World) :
    Calls Try.prog 71 #[.int .u64 (x : Int), .int .u64 (y : Int)] w fun e w' => e = .returned (.tuple #[.int .u64 0, .bool false]) ∧ w = w' := by
  have hx : 0 < x := by
    rcases Nat.eq_zero_or_pos x with rfl | hx
    · simp at h
    · exact hx
  have t0 : ((x : Int) != 0) = true := by rw [bne_iff_ne]; omega
  have t1 : decide ((18446744073709551615 : Int) / x < y) = true := by
    apply decide_eq_true
    have := (over_iff (y := y) hx).2 h
    have e2 : (18446744073709551615 : Int) / x = ((18446744073709551615 / x : Nat) : Int) := by simp
    rw [e2]
    omega
  go_enter Try.func71, Try.ntmps71
  go_wp2
  go_ret2
  exact ⟨rfl, rfl⟩
theorem add_alike (x y : Nat) (hx : x < 18446744073709551616) (hy : y < 18446744073709551616) : Alike 68 69 #[.int .u64 (x : Int), .int .u64 (y : Int)] := by
  by_cases h : x + y < 18446744073709551616
  · exact ⟨_, _, add_ok x y h, radd_ok x y h⟩
  · exact ⟨0, false, add_bad x y hx hy h, radd_bad x y hx h⟩
theorem mul_alike (x y : Nat) (hx : x < 18446744073709551616) (hy : y < 18446744073709551616) : Alike 70 71 #[.int .u64 (x : Int), .int .u64 (y : Int)] := by
  by_cases h : x * y < 18446744073709551616
  · exact ⟨_, _, mul_ok x y hx hy h, rmul_ok x y h⟩
  · exact ⟨0, false, mul_bad x y hx hy h, rmul_bad x y h⟩
theorem up_alike (x y : Nat) (hx : x < 18446744073709551616) (hy : y < 18446744073709551616) : Alike 51 72 #[.int .u64 (x : Int), .int .u64 (y : Int)] := by
  by_cases hp : ones y = 1
  · obtain ⟨k, hk, rfl⟩ := pow2_of_ones hy hp
    by_cases h0 : x % 2 ^ k = 0
    · exact ⟨x, true, up_same x k hx hk h0, rup_same x k hk h0⟩
    · by_cases hs : x - x % 2 ^ k + 2 ^ k < 18446744073709551616
      · exact ⟨_, true, up_next x k hx hk h0 hs, rup_next x k hx hk h0 hs⟩
      · exact ⟨0, false, up_over x k hx hk h0 hs, rup_over x k hx hk h0 hs⟩
  · exact ⟨0, false, up_bad x y hy hp, rup_bad x y hy (fun ⟨k, hk, e⟩ => hp (by rw [e]; exact ones_pow k hk))⟩

set_option maxRecDepth 100000 in
theorem wordSums (w : World) (a b : Nat) (ha : a < 18446744073709551616) (hb : b < 18446744073709551616) :
    Calls Try.prog 13 #[.int .u64 (a : Int), .int .u64 (b : Int)] w fun e w' => e = .returned (.bool true) ∧ Grow w w' := by
  obtain ⟨v1, b1, c1, d1⟩ := add_alike a b ha hb
  obtain ⟨v2, b2, c2, d2⟩ := mul_alike a b ha hb
  obtain ⟨v3, b3, c3, d3⟩ := up_alike a b ha hb
  go_enter Try.func13, Try.ntmps13
  go_wp2_with fail
  refine (awake1 w).mono ?_
  rintro e w1 ⟨rfl, hg⟩
  go_wp2_with fail
  refine (c1 w1).mono ?_
  rintro e w' ⟨rfl, rfl⟩
  go_wp2_with fail
  refine (d1 w1).mono ?_
  rintro e w' ⟨rfl, rfl⟩
  go_wp2_with fail
  refine (c2 w1).mono ?_
  rintro e w' ⟨rfl, rfl⟩
  go_wp2_with fail
  refine (d2 w1).mono ?_
  rintro e w' ⟨rfl, rfl⟩
  go_wp2_with fail
  refine (c3 w1).mono ?_
  rintro e w' ⟨rfl, rfl⟩
  go_wp2_with fail
  refine (d3 w1).mono ?_
  rintro e w' ⟨rfl, rfl⟩
  go_wp2
  go_ret
  exact ⟨rfl, hg⟩
end Go.Proofs.Ck
