/- IntentWithin: the walk. -/
import Derived.Test.YtpakfelekphbmaaIntentBack
namespace Go.Proofs.Ck
open Go Go.RowKit

theorem logN_fst (c : Nat) (l : List (Nat × Nat)) : ∀ (k i : Nat), i < 2 * k → ((logN c l k).getD i (0, 0)).1 = 64 + 416 * c + 32 + 8 * i
  | 0, i, h => by omega
  | k + 1, i, h => by
    rw [logN_succ, List.getD_eq_getElem?_getD]
    by_cases hi : i < 2 * k
    · rw [List.getElem?_append_left (by rw [logN_length]; exact hi), ← List.getD_eq_getElem?_getD]
      exact logN_fst c l k i hi
    · rw [List.getElem?_append_right (by rw [logN_length]; omega), logN_length]
      rcases (show i - 2 * k = 0 ∨ i - 2 * k = 1 by omega) with e | e
      · rw [e]
        show 64 + 416 * c + (32 + 16 * k) = _
        omega
      · rw [e]
        show 64 + 416 * c + (40 + 16 * k) = _
        omega

set_option maxRecDepth 100000 in
set_option maxHeartbeats 4000000 in
theorem intentWithin {w : World} {A : Option Addr} {n : Nat} {l : List (Nat × Nat)} (c : Nat) (hc : c < 256) (hl : Puts (fun b => b < w.heap.size) w A l) (hm : l.length ≤ 9223372036854775807) :
    Calls Try.prog 21 #[.int .u8 (c : Int), .slice A l.length n] w fun e w' => e = .returned (.bool true) ∧ Grow w w' := by
  by_cases h24 : l.length ≤ 24
  · have t0 : decide ((24 : Int) < l.length) = false := decide_eq_false (by omega)
    have ec : IntKind.i64.wrap ((c : Int) % 8) = ((c % 8 : Nat) : Int) := by rw [IntKind.wrap_i64]; omega
    have hc8 : c % 8 < 8 := by omega
    generalize c % 8 = C at *
    have hw1 := fun w => word_ok w C 32 hc8 rfl (by omega)
    have hw2 := fun w => word_ok w C 408 hc8 rfl (by omega)
    have hln := logN_length C l l.length
    have hfs := logN_fst C l l.length
    obtain ⟨fst, hfst⟩ : ∃ x, 64 + 416 * C + 32 = x := ⟨_, rfl⟩
    obtain ⟨lst, hlst⟩ : ∃ x, 64 + 416 * C + 408 = x := ⟨_, rfl⟩
    have hll : fst + 376 ≤ lst := by omega
    have h8 : fst % 8 = 0 := by omega
    have H8 := Lib.hid h8
    clear h8
    rw [hfst] at hw1 hfs
    rw [hlst] at hw2
    have HFS := Lib.hid hfs
    clear hfst hlst hfs
    go_enter Try.func21, Try.ntmps21
    go_wp2_with fail
    refine (awake17 w).mono ?_
    rintro e w1 ⟨rfl, hg⟩
    go_wp2_with fail
    refine (words_ok hc8 (hl.grow hg) h24).mono ?_
    rintro e w2 ⟨B, m, rfl, hr, hg2⟩
    have hg := hg.trans hg2
    clear hg2 hl
    generalize logN C l l.length = L at *
    obtain ⟨N, hN⟩ : ∃ N, 2 * l.length = N := ⟨_, rfl⟩
    rw [hN] at hr hln HFS ⊢
    have t9 : ((N : Int) == 2 * (l.length : Int)) = true := by rw [beq_iff_eq]; omega
    have hN48 : N ≤ 48 := by omega
    have HLN := Lib.hid hln
    clear hln hN
    go_wp2_with fail
    refine (show Calls _ _ #[_, .int .u64 32] _ _ from hw1 _).mono ?_
    rintro e w' ⟨rfl, rfl⟩
    go_wp2_with fail
    refine (show Calls _ _ #[_, .int .u64 408] _ _ from hw2 _).mono ?_
    rintro e w' ⟨rfl, rfl⟩
    clear hw1 hw2
    go_wp2
    go_loopw [13] (fun i wr => ∃ k : Nat, k ≤ N ∧ i = .int .i64 (k : Int) ∧ Grow w2 wr) (fun i _ => N - (intOf i).toNat)
    case atStart => exact ⟨0, Nat.zero_le _, rfl, Below.refl _ _⟩
    case round =>
      obtain ⟨k, hk, rfl, hgr⟩ := hrel
      by_cases hlt : k < N
      · obtain ⟨b, o, rfl, _, hcell⟩ := (hr.grow hgr).pos (by omega) (by omega)
        have hx := hcell _ _ (puts_get (show k < L.length by have := HLN.out; omega)).1
        rw [HFS.out k hlt] at hx
        obtain ⟨x, hxd⟩ : ∃ x, fst + 8 * k = x := ⟨_, rfl⟩
        rw [hxd] at hx
        have t1 : decide ((x : Int) < fst) = false := decide_eq_false (by omega)
        have t2 : decide ((lst : Int) < x) = false := decide_eq_false (by omega)
        have u1 : decide (x < fst) = false := decide_eq_false (by omega)
        have u2 : decide (lst < x) = false := decide_eq_false (by omega)
        have t3 : ((x : Int) % 8 != 0) = false := by have := H8.out; rw [← Bool.not_eq_true, bne_iff_ne]; omega
        have g0 : decide ((k : Int) < N) = true := decide_eq_true (by omega)
        cases k with
        | zero =>
          rw [Nat.zero_mul, Nat.add_zero] at hx
          clear hcell hr hxd
          go_wp2
          go_quiet (fail)
          go_wp2
          go_roundw
          case rel => exact ⟨1, by omega, by go_num, hgr.drewN nq⟩
          case measure => simp [intOf]; omega
        | succ j =>
          have hy := hcell _ _ (puts_get (show j < L.length by have := HLN.out; omega)).1
          rw [HFS.out j (by omega)] at hy
          obtain ⟨y, hyd⟩ : ∃ x, fst + 8 * j = x := ⟨_, rfl⟩
          rw [hyd] at hy
          have t4 : decide ((x : Int) ≤ y) = false := decide_eq_false (by omega)
          have u4 : decide (x ≤ y) = false := decide_eq_false (by omega)
          have t5 : decide ((0 : Int) < (j : Int) + 1) = true := decide_eq_true (by omega)
          have e5 : IntKind.i64.wrap ((j : Int) + 1 - 1) = (j : Int) := by rw [IntKind.wrap_i64]; omega
          have gj : decide ((j : Int) < N) = true := decide_eq_true (by omega)
          have e6 : ((j : Int) + 1).toNat = j + 1 := by omega
          have e7 : (0 : Int) ≤ (j : Int) + 1 := by omega
          have e8 : (j : Int) + 1 < N := by omega
          have e9 : decide ((j : Int) + 1 < N) = true := decide_eq_true e8
          clear hcell hr hxd hyd
          go_wp2
          go_quiet (fail)
          go_wp2
          go_roundw
          case rel => exact ⟨j + 2, by omega, by go_num, hgr.drewN nq⟩
          case measure => simp [intOf]; omega
      · obtain rfl : k = N := by omega
        have g0 : decide ((k : Int) < k) = false := decide_eq_false (by omega)
        have hg := hg.trans hgr
        clear hr
        go_wp2
        go_ret
        exact ⟨rfl, hg⟩
  · have t0 : decide ((24 : Int) < l.length) = true := decide_eq_true (by omega)
    go_enter Try.func21, Try.ntmps21
    go_wp2_with fail
    refine (awake17 w).mono ?_
    rintro e w1 ⟨rfl, hg⟩
    go_wp2
    go_ret
    exact ⟨rfl, hg⟩
end Go.Proofs.Ck
