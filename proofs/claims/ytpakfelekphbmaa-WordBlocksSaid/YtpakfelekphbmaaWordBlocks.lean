/- WordBlocks: the walk. -/
import Derived.Test.YtpakfelekphbmaaAwake1
import Derived.Lib.Hide
namespace Go.Proofs.Ck
open Go Go.RowKit
open Go.Proofs.Ytpakfelekphbmaa

set_option maxRecDepth 100000 in
set_option maxHeartbeats 2000000 in
theorem wordBlocks (w : World) (n m : Nat) (hn : n < 18446744073709551616) (hm : m < 18446744073709551616) :
    Calls Try.prog 6 #[.int .u64 (n : Int), .int .u64 (m : Int)] w fun e w' => e = .returned (.bool true) ∧ Grow w w' := by
  go_enter Try.func6, Try.ntmps6
  go_wp2_with fail
  refine (awake1 w).mono ?_
  rintro e w1 ⟨rfl, hg⟩
  have wd := words_call n hn w1
  by_cases h1 : need n < 18446744073709551616
  · have c1 := need_ok n h1 w1
    have f1 : need n % 16 = 0 := by unfold need; omega
    have f2 : 48 ≤ need n := by unfold need; omega
    have f3 : n ≤ need n - 40 := by unfold need; omega
    have f4 : n < 8 ∨ need n - 40 - n < 16 := by unfold need; omega
    have f5 : m ≤ n → need m ≤ need n := by unfold need; omega
    generalize need n = a at *
    go_wp2_with fail
    refine c1.mono ?_
    rintro e w' ⟨rfl, rfl⟩
    by_cases h2 : need m < 18446744073709551616
    · have c2 := need_ok m h2 w1
      generalize need m = b at *
      go_wp2_with fail
      refine c2.mono ?_
      rintro e w' ⟨rfl, rfl⟩
      clear c1 c2
      by_cases hmn : n < m
      · have t1 : decide ((n : Int) < m) = true := decide_eq_true (by omega)
        have e1 : (a : Int) % 16 = 0 := by omega
        have e2 : decide ((48 : Int) ≤ a) = true := decide_eq_true (by omega)
        have e3 : decide ((n : Int) ≤ (a : Int) - 40) = true := decide_eq_true (by omega)
        have s1 : IntKind.u64.wrap ((a : Int) - 40) = (a : Int) - 40 := by rw [IntKind.wrap_u64]; omega
        have g1 : decide (((n + 7) / 8 : Nat) ≤ (n : Int) / 8 + 1) = true := decide_eq_true (by omega)
        have g2 : decide ((n : Int) / 8 ≤ ((n + 7) / 8 : Nat)) = true := decide_eq_true (by omega)
        generalize (n + 7) / 8 = d at *
        rcases Nat.lt_or_ge n 8 with h8 | h8
        · have t8 : decide ((n : Int) < 8) = true := decide_eq_true (by omega)
          go_wp2_with fail
          refine wd.mono ?_
          rintro e w' ⟨rfl, rfl⟩
          go_wp2_with fail
          refine wd.mono ?_
          rintro e w' ⟨rfl, rfl⟩
          clear wd
          go_wp2
          go_ret
          exact ⟨rfl, hg⟩
        · have t8 : decide ((n : Int) < 8) = false := decide_eq_false (by omega)
          have t9 : decide ((a : Int) - 40 - n < 16) = true := decide_eq_true (by omega)
          go_wp2_with fail
          refine wd.mono ?_
          rintro e w' ⟨rfl, rfl⟩
          go_wp2_with fail
          refine wd.mono ?_
          rintro e w' ⟨rfl, rfl⟩
          clear wd
          go_wp2
          go_ret
          exact ⟨rfl, hg⟩
      · have t1 : decide ((n : Int) < m) = false := decide_eq_false (by omega)
        have t2 : decide ((b : Int) ≤ a) = true := decide_eq_true (by omega)
        have e1 : (a : Int) % 16 = 0 := by omega
        have e2 : decide ((48 : Int) ≤ a) = true := decide_eq_true (by omega)
        have e3 : decide ((n : Int) ≤ (a : Int) - 40) = true := decide_eq_true (by omega)
        have s1 : IntKind.u64.wrap ((a : Int) - 40) = (a : Int) - 40 := by rw [IntKind.wrap_u64]; omega
        have g1 : decide (((n + 7) / 8 : Nat) ≤ (n : Int) / 8 + 1) = true := decide_eq_true (by omega)
        have g2 : decide ((n : Int) / 8 ≤ ((n + 7) / 8 : Nat)) = true := decide_eq_true (by omega)
        generalize (n + 7) / 8 = d at *
        rcases Nat.lt_or_ge n 8 with h8 | h8
        · have t8 : decide ((n : Int) < 8) = true := decide_eq_true (by omega)
          go_wp2_with fail
          refine wd.mono ?_
          rintro e w' ⟨rfl, rfl⟩
          go_wp2_with fail
          refine wd.mono ?_
          rintro e w' ⟨rfl, rfl⟩
          clear wd
          go_wp2
          go_ret
          exact ⟨rfl, hg⟩
        · have t8 : decide ((n : Int) < 8) = false := decide_eq_false (by omega)
          have t9 : decide ((a : Int) - 40 - n < 16) = true := decide_eq_true (by omega)
          go_wp2_with fail
          refine wd.mono ?_
          rintro e w' ⟨rfl, rfl⟩
          go_wp2_with fail
          refine wd.mono ?_
          rintro e w' ⟨rfl, rfl⟩
          clear wd
          go_wp2
          go_ret
          exact ⟨rfl, hg⟩
    · have c2 := need_bad m hm h2 w1
      have hnm : n < m := by omega
      generalize need m = b at *
      go_wp2_with fail
      refine c2.mono ?_
      rintro e w' ⟨rfl, rfl⟩
      clear c1 c2
      have e1 : (a : Int) % 16 = 0 := by omega
      have e2 : decide ((48 : Int) ≤ a) = true := decide_eq_true (by omega)
      have e3 : decide ((n : Int) ≤ (a : Int) - 40) = true := decide_eq_true (by omega)
      have s1 : IntKind.u64.wrap ((a : Int) - 40) = (a : Int) - 40 := by rw [IntKind.wrap_u64]; omega
      have g1 : decide (((n + 7) / 8 : Nat) ≤ (n : Int) / 8 + 1) = true := decide_eq_true (by omega)
      have g2 : decide ((n : Int) / 8 ≤ ((n + 7) / 8 : Nat)) = true := decide_eq_true (by omega)
      generalize (n + 7) / 8 = d at *
      have t1 : decide ((n : Int) < m) = true := decide_eq_true (by omega)
      rcases Nat.lt_or_ge n 8 with h8 | h8
      · have t8 : decide ((n : Int) < 8) = true := decide_eq_true (by omega)
        go_wp2_with fail
        refine wd.mono ?_
        rintro e w' ⟨rfl, rfl⟩
        go_wp2_with fail
        refine wd.mono ?_
        rintro e w' ⟨rfl, rfl⟩
        clear wd
        go_wp2
        go_ret
        exact ⟨rfl, hg⟩
      · have t8 : decide ((n : Int) < 8) = false := decide_eq_false (by omega)
        have t9 : decide ((a : Int) - 40 - n < 16) = true := decide_eq_true (by omega)
        go_wp2_with fail
        refine wd.mono ?_
        rintro e w' ⟨rfl, rfl⟩
        go_wp2_with fail
        refine wd.mono ?_
        rintro e w' ⟨rfl, rfl⟩
        clear wd
        go_wp2
        go_ret
        exact ⟨rfl, hg⟩
  · have c1 := need_bad n hn h1 w1
    have f1 : 18446744073709551559 < n := by unfold need at h1; omega
    have t1 : decide (18446744073709551559 < (n : Int)) = true := decide_eq_true (by omega)
    go_wp2_with fail
    refine c1.mono ?_
    rintro e w' ⟨rfl, rfl⟩
    by_cases h2 : need m < 18446744073709551616
    · have c2 := need_ok m h2 w1
      generalize need m = b at *
      go_wp2_with fail
      refine c2.mono ?_
      rintro e w' ⟨rfl, rfl⟩
      clear c1 c2
      go_wp2
      go_ret
      exact ⟨rfl, hg⟩
    · have c2 := need_bad m hm h2 w1
      go_wp2_with fail
      refine c2.mono ?_
      rintro e w' ⟨rfl, rfl⟩
      clear c1 c2
      go_wp2
      go_ret
      exact ⟨rfl, hg⟩
end Go.Proofs.Ck
