/- Words: the document's Up and Need. -/
import Derived.Test.YtpakfelekphbmaaGTx
namespace Go.Proofs.Ck
open Go Go.RowKit
open Go.Proofs.Ytpakfelekphbmaa

/-- A power of two. -/
def pow2 (a : Nat) : Prop := ∃ k, k < 64 ∧ a = 2 ^ k
theorem pow2_half {a : Nat} (h : a < 18446744073709551616) (h2 : 1 < a) (he : a % 2 = 0) : pow2 (a / 2) ↔ pow2 a := by
  constructor
  · rintro ⟨k, hk, e⟩
    have ea : a = 2 ^ (k + 1) := by rw [Nat.pow_succ]; omega
    refine ⟨k + 1, ?_, ea⟩
    rcases Nat.lt_or_ge (k + 1) 64 with h64 | h64
    · exact h64
    · have := Nat.pow_le_pow_right (n := 2) (by omega) h64
      omega
  · rintro ⟨k, hk, e⟩
    cases k with
    | zero => simp at e; omega
    | succ k => exact ⟨k, by omega, by rw [Nat.pow_succ] at e; omega⟩
theorem pow2_odd {a : Nat} (h2 : 1 < a) (he : a % 2 ≠ 0) : ¬ pow2 a := by
  rintro ⟨k, hk, e⟩
  cases k with
  | zero => simp at e; omega
  | succ k => rw [Nat.pow_succ] at e; omega
theorem pow2_one : pow2 1 := ⟨0, by omega, rfl⟩
theorem pow2_zero : ¬ pow2 0 := by
  rintro ⟨k, hk, e⟩
  have := Nat.two_pow_pos k
  omega

set_option maxRecDepth 100000 in
theorem power_call (a : Nat) (ha : a < 18446744073709551616) (w : World) :
    Calls Try.prog 152 #[.int .u64 (a : Int)] w fun e w' => (∃ b, e = .returned (.bool b) ∧ (b = true ↔ pow2 a)) ∧ w = w' := by
  go_enter Try.func152, Try.ntmps152
  go_wp2
  go_loop [0] (fun x => ∃ k : Nat, k < 18446744073709551616 ∧ x = .int .u64 (k : Int) ∧ (pow2 k ↔ pow2 a)) (fun x => (intOf x).toNat)
  case atStart => exact ⟨a, ha, rfl, Iff.rfl⟩
  case round =>
    obtain ⟨k, hk, rfl, hp⟩ := hrel
    by_cases h1 : 1 < k
    · have t1 : decide (1 < (k : Int)) = true := decide_eq_true (by omega)
      by_cases he : k % 2 = 0
      · have t2 : ((k : Int) % 2 == 0) = true := by rw [beq_iff_eq]; omega
        have hp2 := (pow2_half hk h1 he).trans hp
        have HP := Lib.hid hp2
        clear hp hp2
        go_wp2
        go_round
        case rel => exact ⟨k / 2, by omega, by go_num, HP.out⟩
        case measure => simp [intOf]; omega
      · have t2 : ((k : Int) % 2 == 0) = false := by rw [beq_eq_false_iff_ne]; omega
        have t3 : ((k : Int) == 1) = false := by rw [beq_eq_false_iff_ne]; omega
        have hn := fun h => pow2_odd h1 he (hp.2 h)
        clear hp
        go_wp2
        go_ret
        exact ⟨.inl ⟨rfl, hn⟩, rfl⟩
    · have t1 : decide (1 < (k : Int)) = false := decide_eq_false (by omega)
      rcases (show k = 0 ∨ k = 1 by omega) with rfl | rfl
      · have hn := fun h => pow2_zero (hp.2 h)
        clear hp
        go_wp2
        go_ret
        exact ⟨.inl ⟨rfl, hn⟩, rfl⟩
      · have hn := hp.1 pow2_one
        clear hp
        go_wp2
        go_ret
        exact ⟨rfl, rfl⟩

theorem power_ok (k : Nat) (hk : k < 64) (w : World) : Calls Try.prog 152 #[.int .u64 ((2 ^ k : Nat) : Int)] w fun e w' => e = .returned (.bool true) ∧ w = w' :=
  (power_call (2 ^ k) (pow_lt k hk) w).mono fun e w' ⟨⟨b, h1, h2⟩, h3⟩ => ⟨by rw [h1, h2.2 ⟨k, hk, rfl⟩], h3⟩
theorem rup_same (n k : Nat) (hk : k < 64) (h : n % 2 ^ k = 0) (w : World) :
    Calls Try.prog 72 #[.int .u64 (n : Int), .int .u64 ((2 ^ k : Nat) : Int)] w fun e w' => e = .returned (.tuple #[.int .u64 (n : Int), .bool true]) ∧ w = w' := by
  have hc := power_ok k hk w
  have hr : (n : Int) % ((2 ^ k : Nat) : Int) = 0 := by rw [← Int.natCast_emod, h]; rfl
  have hp := Nat.two_pow_pos k
  generalize 2 ^ k = a at *
  go_enter Try.func72, Try.ntmps72
  go_wp2_with fail
  refine hc.mono ?_
  rintro e w' ⟨rfl, rfl⟩
  clear hc
  go_wp2
  go_ret2
  exact ⟨rfl, rfl⟩
theorem rup_next (n k : Nat) (hn : n < 18446744073709551616) (hk : k < 64) (h : n % 2 ^ k ≠ 0) (hs : n - n % 2 ^ k + 2 ^ k < 18446744073709551616) (w : World) :
    Calls Try.prog 72 #[.int .u64 (n : Int), .int .u64 ((2 ^ k : Nat) : Int)] w fun e w' => e = .returned (.tuple #[.int .u64 ((n - n % 2 ^ k + 2 ^ k : Nat) : Int), .bool true]) ∧ w = w' := by
  have hc := power_ok k hk w
  have hr : (n : Int) % ((2 ^ k : Nat) : Int) = ((n % 2 ^ k : Nat) : Int) := by simp
  have ha := radd_ok (n - n % 2 ^ k) (2 ^ k) hs w
  have hp := Nat.two_pow_pos k
  have hrn := Nat.mod_le n (2 ^ k)
  have e1 : (n : Int) - ((n % 2 ^ k : Nat) : Int) = ((n - n % 2 ^ k : Nat) : Int) := by omega
  have e2 : IntKind.u64.wrap ((n : Int) - ((n % 2 ^ k : Nat) : Int)) = ((n - n % 2 ^ k : Nat) : Int) := by rw [IntKind.wrap_u64]; omega
  generalize n - n % 2 ^ k = m at *
  generalize n % 2 ^ k = r at *
  generalize 2 ^ k = a at *
  have t : ((r : Int) == 0) = false := by rw [beq_eq_false_iff_ne]; omega
  go_enter Try.func72, Try.ntmps72
  go_wp2_with fail
  refine hc.mono ?_
  rintro e w' ⟨rfl, rfl⟩
  clear hc
  go_wp2_with fail
  refine ha.mono ?_
  rintro e w' ⟨rfl, rfl⟩
  clear ha
  go_wp2
  go_ret2
  exact ⟨rfl, rfl⟩
end Go.Proofs.Ck
