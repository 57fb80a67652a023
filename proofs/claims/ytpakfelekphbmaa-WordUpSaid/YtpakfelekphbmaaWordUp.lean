/- WordUp: the walk. -/
import Derived.Test.YtpakfelekphbmaaAwake1
import Derived.Lib.Hide
namespace Go.Proofs.Ck
open Go Go.RowKit
open Go.Proofs.Ytpakfelekphbmaa

theorem wf_u8 {n : Int} (h : (Lit.int .u8 n).wf = true) : ∃ x : Nat, n = (x : Int) ∧ x < 256 := by
  simp [Lit.wf, IntKind.min, IntKind.max, IntKind.signed, IntKind.bits] at h
  exact ⟨n.toNat, by omega, by omega⟩

set_option maxRecDepth 100000 in
set_option maxHeartbeats 1000000 in
theorem wordUp (w : World) (n k8 : Nat) (hn : n < 18446744073709551616) (hk8 : k8 < 256) :
    Calls Try.prog 5 #[.int .u64 (n : Int), .int .u8 (k8 : Int)] w fun e w' => e = .returned (.bool true) ∧ Grow w w' := by
  have hk : k8 % 64 < 64 := by omega
  have k1 : (k8 : Int) % 64 = ((k8 % 64 : Nat) : Int) := by omega
  have k2 : (k8 : Int).tmod 64 = ((k8 % 64 : Nat) : Int) := by rw [Int.tmod_eq_emod_of_nonneg (by omega)]; omega
  have k3 : IntKind.u8.wrap (((k8 % 64 : Nat) : Int)) = ((k8 % 64 : Nat) : Int) := by rw [IntKind.wrap_u8]; omega
  have k4 : IntKind.u64.wrap (((k8 % 64 : Nat) : Int)) = ((k8 % 64 : Nat) : Int) := by rw [IntKind.wrap_u64]; omega
  generalize k8 % 64 = k at *
  have hl := pow_lt k hk
  have k5 : IntKind.u64.wrap (2 ^ k) = ((2 ^ k : Nat) : Int) := by
    have kA : (2 : Int) ^ k = ((2 ^ k : Nat) : Int) := by simp
    rw [IntKind.wrap_u64, kA]; clear kA; generalize (2 ^ k : Nat) = a at hl ⊢; omega
  go_enter Try.func5, Try.ntmps5
  go_wp2_with fail
  refine (awake1 w).mono ?_
  rintro e w1 ⟨rfl, hg⟩
  go_wp2_with fail
  have kA : (2 : Int) ^ k = ((2 ^ k : Nat) : Int) := by simp
  rw [kA]
  have hp := Nat.two_pow_pos k
  have c1 := fun h => up_same n k hn hk h w1
  have c2 := fun h hs => up_next n k hn hk h hs w1
  have c3 := fun h hs => up_over n k hn hk h hs w1
  have c4 : ∀ u, u < 18446744073709551616 → u % 2 ^ k = 0 → _ := fun u h1 h2 => up_same u k h1 hk h2 w1
  have hm : (n - n % 2 ^ k) % 2 ^ k = 0 := by
    have := Nat.div_add_mod n (2 ^ k)
    rw [show n - n % 2 ^ k = 2 ^ k * (n / 2 ^ k) from by omega]
    exact Nat.mul_mod_right _ _
  have hr0 : (n : Int) % ((2 ^ k : Nat) : Int) = ((n % 2 ^ k : Nat) : Int) := by simp
  have hrl := Nat.mod_lt n hp
  have hrn := Nat.mod_le n (2 ^ k)
  clear k5 kA
  generalize 2 ^ k = a at *
  generalize hr : n % a = r at *
  by_cases h0 : r = 0
  · subst h0
    go_wp2_with fail
    refine (c1 trivial).mono ?_
    rintro e w' ⟨rfl, rfl⟩
    go_wp2_with fail
    refine (c4 n hn hr).mono ?_
    rintro e w' ⟨rfl, rfl⟩
    clear c1 c2 c3 c4 hm hr
    go_wp2
    go_ret
    exact ⟨rfl, hg⟩
  · by_cases hs : n - r + a < 18446744073709551616
    · have hu : (n - r + a) % a = 0 := by rw [Nat.add_mod_right]; exact hm
      have hu0 : ((n - r + a : Nat) : Int) % (a : Int) = 0 := by rw [← Int.natCast_emod, hu]; rfl
      have d1 := c2 h0 hs
      have d2 := c4 _ hs hu
      have b1 : n ≤ n - r + a := by omega
      have b2 : n - r + a - n < a := by omega
      generalize n - r + a = u at *
      go_wp2_with fail
      refine d1.mono ?_
      rintro e w' ⟨rfl, rfl⟩
      go_wp2_with fail
      refine d2.mono ?_
      rintro e w' ⟨rfl, rfl⟩
      clear c1 c2 c3 c4 hm hr d1 d2
      go_wp2
      go_ret
      exact ⟨rfl, hg⟩
    · have hz : ((r : Int) != 0) = true := by rw [bne_iff_ne]; omega
      go_wp2_with fail
      refine (c3 h0 hs).mono ?_
      rintro e w' ⟨rfl, rfl⟩
      clear c1 c2 c3 c4 hm hr
      go_wp2
      go_ret
      exact ⟨by rw [decide_eq_true (by omega)]; rfl, hg⟩
end Go.Proofs.Ck
