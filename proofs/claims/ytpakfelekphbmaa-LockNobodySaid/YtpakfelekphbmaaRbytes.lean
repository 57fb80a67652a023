/- A part of the proofs of this seat's laws. -/
import Derived.Test.YtpakfelekphbmaaRone
namespace Go.Proofs.Ck
open Go Go.RowKit

theorem bytesOf_succ (W : List Nat) (off k : Nat) : bytesOf W off (k + 1) = bytesOf W off k ++ [segByte W (off + k)] := by simp [bytesOf, List.range_succ]
theorem u8s_append (a b : List Nat) : u8s (a ++ b) = u8s a ++ u8s b := by simp [u8s]
theorem u64s_append (a b : List Nat) : u64s (a ++ b) = u64s a ++ u64s b := by simp [u64s]

set_option maxHeartbeats 400000 in
theorem rbytes_bad (A : Option Addr) (m c off n : Nat) (w : World) (ho : off < 18446744073709551616) (hm : m ≤ 17592186044416) (hb : ¬ (0 < m ∧ off ≤ 8 * m ∧ n ≤ 8 * m - off)) :
    Calls Try.prog 46 #[.slice A m c, .int .u64 (off : Int), .int .u64 (n : Int)] w fun e w' => e = .returned (.tuple #[.slice none 0 0, .int .i64 1]) ∧ w = w' := by
  by_cases h0 : 0 < m
  · have hz0 : (8 * (m : Int) == 0) = false := by simp; omega
    by_cases h1 : off ≤ 8 * m
    · have h2 : ¬ n ≤ 8 * m - off := fun x => hb ⟨h0, h1, x⟩
      go_enter Try.func46, Try.ntmps46
      go_wp2
      all_goals (go_ret2; exact ⟨rfl, rfl⟩)
    · go_enter Try.func46, Try.ntmps46
      go_wp2
      all_goals (go_ret2; exact ⟨rfl, rfl⟩)
  · obtain rfl : m = 0 := by omega
    go_enter Try.func46, Try.ntmps46
    go_wp2
    all_goals (go_ret2; exact ⟨rfl, rfl⟩)

set_option maxRecDepth 100000 in
set_option maxHeartbeats 1000000 in
theorem rbytes_ok {S : Nat → Prop} {A : Option Addr} {c : Nat} {W : List Nat} {w : World} (h : Nums S w A W) (off n : Nat) (hn : W.length ≤ 17592186044416) (hw : ∀ x ∈ W, x < 18446744073709551616)
    (h0 : 0 < W.length) (h1 : off ≤ 8 * W.length) (h2 : n ≤ 8 * W.length - off) :
    Calls Try.prog 46 #[.slice A W.length c, .int .u64 (off : Int), .int .u64 (n : Int)] w fun e w' =>
      (∃ A' c', e = .returned (.tuple #[.slice A' n c', .int .i64 0]) ∧ Byts (fun b => w.heap.size ≤ b) w' A' (bytesOf W off n)) ∧ Grow w w' := by
  obtain ⟨i5, hi, hz, hsz, hb⟩ := info_parts info5
  have hz0 : (8 * (W.length : Int) == 0) = false := by rw [beq_eq_false_iff_ne]; omega
  have t1 : decide ((8 * (W.length : Int)) < off) = false := by rw [decide_eq_false_iff_not]; omega
  have t2 : decide ((8 * (W.length : Int)) - off < n) = false := by rw [decide_eq_false_iff_not]; omega
  go_enter Try.func46, Try.ntmps46
  go_wp2
  go_loopw [9, 10] (fun v i wr => ∃ k : Nat, k ≤ n ∧ i = .int .u64 (k : Int) ∧ wr.ownsRow w.heap.size 5 1 v k (u8s (bytesOf W off k)) ∧ Grow w wr) (fun _ i _ => n - (intOf i).toNat)
  case atStart => exact ⟨0, Nat.zero_le _, rfl, World.ownsRow_nil _ _ _ _, Below.refl _ _⟩
  case round =>
    obtain ⟨k, hk, rfl, hown, hg⟩ := hrel
    have hgz := hg.size
    by_cases hlt : k < n
    · have hr := h.grow hg
      go_wp2_with (first
        | (go_at_call 142; refine (rone_ok hr (off + k) (by omega) hn hw).mono ?_; rintro e w' ⟨rfl, rfl⟩)
        | (at_builtin; refine wpList_push wr rfl (.tmp 34) (.tmp 40) 30 rfl w.heap.size 5 i5 (.int .u8 0) 1 1 Try.underlying30 hi hz hsz hb rfl (by decide) _ k _ rfl hown #[.int .u8 ((segByte W (off + k) : Nat) : Int)] rfl rfl (by simp [Value.oneCell']) rfl (by unfold maxLen; omega) (by omega) (by omega) ?_))
      intro v' w1 hown' ho
      have hg1 := grow_own hg hown ho
      clear hown ho hr
      go_wp2
      go_roundw
      case rel => exact ⟨k + 1, by omega, by go_num, by rw [bytesOf_succ, u8s_append]; exact hown', hg1⟩
      case measure => simp [intOf]; omega
    · obtain rfl : k = n := by omega
      obtain ⟨A', c', hv, _, _, hrow⟩ := Row.of_own hown
      subst hv
      clear hown
      go_wp2
      go_ret2
      refine ⟨⟨A', c', rfl, ?_⟩, hg⟩
      rw [Byts, bytesOf_length]
      exact hrow

end Go.Proofs.Ck
