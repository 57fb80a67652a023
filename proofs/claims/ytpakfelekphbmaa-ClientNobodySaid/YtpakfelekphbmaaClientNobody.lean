/- ClientNobody: the walk. -/
import Derived.Test.YtpakfelekphbmaaAwake8
namespace Go.Proofs.Ck
open Go Go.RowKit

theorem nobodyT (w : World) : TxAny w (.pointer none) (fun _ => 0) := .inl ⟨rfl, rfl⟩
theorem point_nil (w : World) (c : Int) (x : Nat) : Calls Try.prog 104 #[.pointer none, .int .i64 c, .int .u64 (x : Int)] w fun e w' => e = .returned (.tuple #[]) ∧ Grow w w' := by
  have hs : ∃ E : Nat, Calls Try.prog 159 #[.pointer none, .int .i64 c, .int .u64 ((8 : Nat) : Int), .int .u64 (x : Int)] w fun e w' => e = .returned (.int .i64 (E : Int)) ∧ Grow w w' := by
    by_cases hc : 0 ≤ c ∧ c < 8
    · obtain ⟨C, rfl⟩ := Int.eq_ofNat_of_zero_le hc.1
      exact ⟨0, set_nil w C 8 x (by omega) rfl (by omega)⟩
    · exact ⟨1, set_bad w _ c 8 x hc⟩
  obtain ⟨E, hs⟩ := hs
  go_enter Try.func104, Try.ntmps104
  go_wp2_with fail
  refine hs.mono ?_
  rintro e w1 ⟨rfl, hg⟩
  go_wp2
  go_end0
  exact ⟨rfl, hg⟩
theorem getF_nobody (c : Int) (what : Nat) : getF (fun _ => 0) c what = 0 := by unfold getF; split <;> rfl
theorem detach_nil (w : World) (c : Int) (hc : 0 ≤ c ∧ c < 8) : Calls Try.prog 106 #[.pointer none, .int .i64 c] w fun e w' => e = .returned (.int .i64 10) ∧ Grow w w' := by
  obtain ⟨C, rfl⟩ := Int.eq_ofNat_of_zero_le hc.1
  have hw1 := word_ok w C 0 (by omega) rfl (by omega)
  have hst := stateIs (nobodyT w) (getF_nobody (C : Int) 0)
  generalize 64 + 416 * C + 0 = o at *
  clear hc
  go_enter Try.func106, Try.ntmps106
  go_wp2_with fail
  refine hw1.mono ?_
  rintro e w' ⟨rfl, rfl⟩
  go_wp2_with fail
  refine hst.mono ?_
  rintro e w1 ⟨rfl, hg⟩
  go_wp2
  go_ret
  exact ⟨rfl, hg⟩

set_option maxRecDepth 100000 in
set_option maxHeartbeats 1000000 in
theorem clientNobody (w : World) (c : Int) (off : Nat) : Calls Try.prog 28 #[.int .i64 c, .int .u64 (off : Int)] w fun e w' => e = .returned (.bool true) ∧ Grow w w' := by
  have s1 : sts (fun _ => 0) 1 8 = [] := rfl
  have s0 : (sts (fun _ => 0) 0 8).length = 8 := rfl
  have hd : ∀ w, Calls Try.prog 106 #[.pointer none, .int .i64 c] w fun e w' => e = .returned (.int .i64 (if 0 ≤ c ∧ c < 8 then 10 else 1)) ∧ Grow w w' := fun w => by
    split
    · next h => exact detach_nil w c h
    · next h => exact detach_bad w _ c h
  have S1 := Lib.hid s1
  have S0 := Lib.hid s0
  clear s0 s1
  go_enter Try.func28, Try.ntmps28
  go_wp2_with fail
  refine (awake8 w).mono ?_
  rintro e w1 ⟨rfl, hg⟩
  go_wp2_with fail
  refine (point_nil w1 c off).mono ?_
  rintro e w2 ⟨rfl, hg2⟩
  have hg := hg.trans hg2
  clear hg2
  have ha := all_call (nobodyT w2) 1
  rw [S1.out] at ha
  go_wp2_with fail
  refine (show Calls _ _ #[_, .int .u64 1] _ _ from ha).mono ?_
  rintro e w3 ⟨A, n, rfl, -, hg2⟩
  have hg := hg.trans hg2
  clear hg2 ha
  go_wp2_with fail
  refine (stateIs (nobodyT w3) (getF_nobody c 0)).mono ?_
  rintro e w4 ⟨rfl, hg2⟩
  have hg := hg.trans hg2
  clear hg2
  go_wp2_with fail
  refine (headIs (nobodyT w4) (getF_nobody c 8)).mono ?_
  rintro e w5 ⟨rfl, hg2⟩
  have hg := hg.trans hg2
  clear hg2
  have ha := all_call (nobodyT w5) 0
  rw [S0.out] at ha
  go_wp2_with fail
  refine (show Calls _ _ #[_, .int .u64 0] _ _ from ha).mono ?_
  rintro e w6 ⟨A', n', rfl, -, hg2⟩
  have hg := hg.trans hg2
  clear hg2 ha
  by_cases h0 : c < 0
  · have t0 : decide (c < 0) = true := decide_eq_true h0
    have hd := hd w6
    rw [if_neg (by omega)] at hd
    go_wp2_with fail
    refine hd.mono ?_
    rintro e w7 ⟨rfl, hg2⟩
    have hg := hg.trans hg2
    clear hg2 hd
    go_wp2
    go_ret
    exact ⟨rfl, hg⟩
  · have t0 : decide (c < 0) = false := decide_eq_false h0
    by_cases h7 : 7 < c
    · have t1 : decide (7 < c) = true := decide_eq_true h7
      have hd := hd w6
      rw [if_neg (by omega)] at hd
      go_wp2_with fail
      refine hd.mono ?_
      rintro e w7 ⟨rfl, hg2⟩
      have hg := hg.trans hg2
      clear hg2 hd
      go_wp2
      go_ret
      exact ⟨rfl, hg⟩
    · have t1 : decide (7 < c) = false := decide_eq_false h7
      have hd := hd w6
      rw [if_pos (by omega)] at hd
      go_wp2_with fail
      refine hd.mono ?_
      rintro e w7 ⟨rfl, hg2⟩
      have hg := hg.trans hg2
      clear hg2 hd
      go_wp2
      go_ret
      exact ⟨rfl, hg⟩
end Go.Proofs.Ck
