/- A part of the proofs of this seat's laws. -/
import Derived.Test.YtpakfelekphbmaaBytes
namespace Go.Proofs.Ck
open Go Go.RowKit

set_option maxRecDepth 100000 in
set_option maxHeartbeats 1000000 in
theorem rone_ok {S : Nat → Prop} {A : Option Addr} {c : Nat} {W : List Nat} {w : World} (h : Nums S w A W) (at_ : Nat) (hlt : at_ / 8 < W.length) (hn : W.length ≤ 17592186044416) (hw : ∀ x ∈ W, x < 18446744073709551616) :
    Calls Try.prog 142 #[.slice A W.length c, .int .u64 (at_ : Int)] w fun e w' => e = .returned (.int .u8 ((segByte W at_ : Nat) : Int)) ∧ w = w' := by
  obtain ⟨b, o, rfl, _, hc⟩ := h.pos (by omega) (by omega)
  have hcx := hc (at_ / 8) _ (u64s_get hlt)
  have hV := hw _ (getD_mem hlt)
  have hseg : segByte W at_ = byteOf (W.getD (at_ / 8) 0) (at_ % 8) := rfl
  clear hc h hw
  generalize W.getD (at_ / 8) 0 = V at *
  have H := Lib.hid hseg; clear hseg
  go_enter Try.func142, Try.ntmps142
  go_wp2
  go_loop [5, 6] (fun x i => ∃ k : Nat, k ≤ at_ % 8 ∧ i = .int .u64 (k : Int) ∧ ∃ y : Nat, Hid (y = V / 256 ^ k) ∧ y ≤ V ∧ x = .int .u64 (y : Int)) (fun _ i => at_ % 8 - (intOf i).toNat)
  case atStart => exact ⟨0, Nat.zero_le _, rfl, V, Lib.hid (by simp), Nat.le_refl _, rfl⟩
  case round =>
    obtain ⟨k, hk, rfl, y, hy, hyv, rfl⟩ := hrel
    by_cases hlt8 : k < at_ % 8
    · go_wp2
      go_round
      case rel => exact ⟨k + 1, by omega, by go_num, y / 256, Lib.hid (by rw [hy.out, Nat.div_div_eq_div_mul, Nat.pow_succ]), Nat.le_trans (Nat.div_le_self _ _) hyv, by go_num⟩
      case measure => simp [intOf]; omega
    · obtain hk8 : k = at_ % 8 := by omega
      have HK := Lib.hid hk8; clear hk8
      go_wp2
      go_ret
      refine ⟨?_, rfl⟩
      show Ending.returned (.int .u8 ((y : Int) % 256)) = _
      rw [H.out, byteOf, ← HK.out, ← hy.out]
      rfl

end Go.Proofs.Ck
