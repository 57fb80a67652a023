/- Words: the law of the names. -/
import Derived.Test.YtpakfelekphbmaaName5
namespace Go.Proofs.Ck
open Go Go.RowKit

set_option maxRecDepth 100000 in
set_option maxHeartbeats 4000000 in
theorem wordNames (w : World) (s : ByteArray) (w0 w1 : Nat) (h0 : w0 < 18446744073709551616) (h1 : w1 < 18446744073709551616) :
    Calls Try.prog 12 #[.string s, .agg #[.int .u64 (w0 : Int), .int .u64 (w1 : Int)]] w fun e w' => e = .returned (.bool true) ∧ Grow w w' := by
  have hga : Grow w (w.alloc (.cells #[.int .u64 (w0 : Int), .int .u64 (w1 : Int)] 37)) := (Below.refl _ _).alloc (Nat.le_refl _) _
  have hB := World.alloc_heap_new w (.cells #[.int .u64 (w0 : Int), .int .u64 (w1 : Int)] 37)
  have ha := awake1 (w.alloc (.cells #[.int .u64 (w0 : Int), .int .u64 (w1 : Int)] 37))
  obtain ⟨p0, p1, b, hp0, hp1, hpk, hrpk, hnp, hbs, -⟩ := packs_any s
  obtain ⟨r0, r1, d, hr0, hr1, hqk, -, -, -, hq⟩ := packs_any (nameOf w0 w1)
  have HQ : isName w0 w1 → d = true ∧ r0 = w0 ∧ r1 = w1 := fun hn => packs_name h0 h1 hn hq
  have hnm : ∀ w, Calls Try.prog 66 _ w _ := fun w => name_call w w0 w1 h0 h1
  have hrnm : ∀ w, Calls Try.prog 67 _ w _ := fun w => rname_call w w0 w1 h0 h1
  have hpn : ∀ w, Calls Try.prog 66 _ w _ := fun w => name_call w p0 p1 hp0 hp1
  rw [hnp] at hpn
  clear hq hnp
  have HC : decide (isName w0 w1) = true → d = true ∧ r0 = w0 ∧ r1 = w1 := fun h => HQ (of_decide_eq_true h)
  clear HQ
  generalize decide (isName w0 w1) = c at *
  generalize nameOf w0 w1 = n at *
  generalize nameOf p0 p1 = m at *
  have KB := Lib.hid hbs
  have KC := Lib.hid HC
  clear HC hbs
  by_cases hs : s.size ≤ 100
  · have t0 : decide (100 < (s.size : Int)) = false := decide_eq_false (by omega)
    go_enter Try.func12, Try.ntmps12
    go_wp2_with fail
    generalize w.alloc (.cells #[.int .u64 (w0 : Int), .int .u64 (w1 : Int)] 37) = wa at *
    refine ha.mono ?_
    rintro e x1 ⟨rfl, hg1⟩
    have hB1 := hg1.heap hB
    have hG1 := hga.trans hg1
    clear ha hB hga hg1
    go_wp2_with fail
    refine (hpk x1).mono ?_
    rintro e x2 ⟨rfl, hg2⟩
    have hB2 := (Below.heap_alloc x2 (.cells #[.int .u64 (p0 : Int), .int .u64 (p1 : Int)] 37) _ (lt_of_heap (hg2.heap hB1))).trans (hg2.heap hB1)
    have hA2 := World.alloc_heap_new x2 (.cells #[.int .u64 (p0 : Int), .int .u64 (p1 : Int)] 37)
    have hG2 := hG1.trans (hg2.trans ((Below.refl _ _).alloc (Nat.le_refl _) (.cells #[.int .u64 (p0 : Int), .int .u64 (p1 : Int)] 37)))
    clear hpk hB1 hG1 hg2
    go_wp2_with fail
    generalize x2.alloc (.cells #[.int .u64 (p0 : Int), .int .u64 (p1 : Int)] 37) = y2 at *
    generalize x2.heap.size = A2 at *
    refine (hrpk y2).mono ?_
    rintro e x3 ⟨rfl, hg3⟩
    have hB3 := (Below.heap_alloc x3 (.cells #[.int .u64 (p0 : Int), .int .u64 (p1 : Int)] 37) _ (lt_of_heap (hg3.heap hB2))).trans (hg3.heap hB2)
    have hA3 := (Below.heap_alloc x3 (.cells #[.int .u64 (p0 : Int), .int .u64 (p1 : Int)] 37) _ (lt_of_heap (hg3.heap hA2))).trans (hg3.heap hA2)
    have hC3 := World.alloc_heap_new x3 (.cells #[.int .u64 (p0 : Int), .int .u64 (p1 : Int)] 37)
    have hG3 := hG2.trans (hg3.trans ((Below.refl _ _).alloc (Nat.le_refl _) (.cells #[.int .u64 (p0 : Int), .int .u64 (p1 : Int)] 37)))
    have b0 : (x3.alloc (.cells #[.int .u64 (p0 : Int), .int .u64 (p1 : Int)] 37)).cell? ⟨w.heap.size, 0, none⟩ = some (.int .u64 (w0 : Int)) := by rw [cell_of_heap hB3]; rfl
    have b1 : (x3.alloc (.cells #[.int .u64 (p0 : Int), .int .u64 (p1 : Int)] 37)).cell? ⟨w.heap.size, 1, none⟩ = some (.int .u64 (w1 : Int)) := by rw [cell_of_heap hB3]; rfl
    clear hrpk hB2 hA2 hG2 hg3
    go_wp2_with fail
    generalize x3.alloc (.cells #[.int .u64 (p0 : Int), .int .u64 (p1 : Int)] 37) = y3 at *
    generalize x3.heap.size = A3 at *
    refine (hnm y3).mono ?_
    rintro e x4 ⟨rfl, hg4⟩
    have hB4 := hg4.heap hB3
    have hA4 := hg4.heap hA3
    have hC4 := hg4.heap hC3
    have hG4 := hG3.trans hg4
    clear b0 b1 hB3 hA3 hC3 hG3 hg4 hnm
    have b0 : x4.cell? ⟨w.heap.size, 0, none⟩ = some (.int .u64 (w0 : Int)) := by rw [cell_of_heap hB4]; rfl
    have b1 : x4.cell? ⟨w.heap.size, 1, none⟩ = some (.int .u64 (w1 : Int)) := by rw [cell_of_heap hB4]; rfl
    go_wp2_with fail
    refine (hrnm x4).mono ?_
    rintro e x5 ⟨rfl, hg5⟩
    have hB5 := hg5.heap hB4
    have hA5 := hg5.heap hA4
    have hC5 := hg5.heap hC4
    have hG5 := hG4.trans hg5
    clear b0 b1 hB4 hA4 hC4 hG4 hg5 hrnm
    have a0 : x5.cell? ⟨A2, 0, none⟩ = some (.int .u64 (p0 : Int)) := by rw [cell_of_heap hA5]; rfl
    have a1 : x5.cell? ⟨A2, 1, none⟩ = some (.int .u64 (p1 : Int)) := by rw [cell_of_heap hA5]; rfl
    go_wp2_with fail
    refine (hpn x5).mono ?_
    rintro e x6 ⟨rfl, hg6⟩
    have hB6 := hg6.heap hB5
    have hA6 := hg6.heap hA5
    have hC6 := hg6.heap hC5
    have hG6 := hG5.trans hg6
    clear a0 a1 hB5 hA5 hC5 hG5 hg6 hpn
    go_wp2_with fail
    refine (hqk x6).mono ?_
    rintro e x7 ⟨rfl, hg7⟩
    have hB7 := (Below.heap_alloc x7 (.cells #[.int .u64 (r0 : Int), .int .u64 (r1 : Int)] 37) _ (lt_of_heap (hg7.heap hB6))).trans (hg7.heap hB6)
    have hA7 := (Below.heap_alloc x7 (.cells #[.int .u64 (r0 : Int), .int .u64 (r1 : Int)] 37) _ (lt_of_heap (hg7.heap hA6))).trans (hg7.heap hA6)
    have hC7 := (Below.heap_alloc x7 (.cells #[.int .u64 (r0 : Int), .int .u64 (r1 : Int)] 37) _ (lt_of_heap (hg7.heap hC6))).trans (hg7.heap hC6)
    have hD7 := World.alloc_heap_new x7 (.cells #[.int .u64 (r0 : Int), .int .u64 (r1 : Int)] 37)
    have hG7 := hG6.trans (hg7.trans ((Below.refl _ _).alloc (Nat.le_refl _) (.cells #[.int .u64 (r0 : Int), .int .u64 (r1 : Int)] 37)))
    clear hqk hB6 hA6 hC6 hG6 hg7
    have b0 : (x7.alloc (.cells #[.int .u64 (r0 : Int), .int .u64 (r1 : Int)] 37)).cell? ⟨w.heap.size, 0, none⟩ = some (.int .u64 (w0 : Int)) := by rw [cell_of_heap hB7]; rfl
    have b1 : (x7.alloc (.cells #[.int .u64 (r0 : Int), .int .u64 (r1 : Int)] 37)).cell? ⟨w.heap.size, 1, none⟩ = some (.int .u64 (w1 : Int)) := by rw [cell_of_heap hB7]; rfl
    have a0 : (x7.alloc (.cells #[.int .u64 (r0 : Int), .int .u64 (r1 : Int)] 37)).cell? ⟨A2, 0, none⟩ = some (.int .u64 (p0 : Int)) := by rw [cell_of_heap hA7]; rfl
    have a1 : (x7.alloc (.cells #[.int .u64 (r0 : Int), .int .u64 (r1 : Int)] 37)).cell? ⟨A2, 1, none⟩ = some (.int .u64 (p1 : Int)) := by rw [cell_of_heap hA7]; rfl
    have c0 : (x7.alloc (.cells #[.int .u64 (r0 : Int), .int .u64 (r1 : Int)] 37)).cell? ⟨A3, 0, none⟩ = some (.int .u64 (p0 : Int)) := by rw [cell_of_heap hC7]; rfl
    have c1 : (x7.alloc (.cells #[.int .u64 (r0 : Int), .int .u64 (r1 : Int)] 37)).cell? ⟨A3, 1, none⟩ = some (.int .u64 (p1 : Int)) := by rw [cell_of_heap hC7]; rfl
    have d0 : (x7.alloc (.cells #[.int .u64 (r0 : Int), .int .u64 (r1 : Int)] 37)).cell? ⟨x7.heap.size, 0, none⟩ = some (.int .u64 (r0 : Int)) := by rw [cell_of_heap hD7]; rfl
    have d1 : (x7.alloc (.cells #[.int .u64 (r0 : Int), .int .u64 (r1 : Int)] 37)).cell? ⟨x7.heap.size, 1, none⟩ = some (.int .u64 (r1 : Int)) := by rw [cell_of_heap hD7]; rfl
    clear hB7 hA7 hC7 hD7
    cases b <;> cases c
    · go_wp2
      go_ret
      exact ⟨rfl, hG7⟩
    · obtain ⟨rfl, rfl, rfl⟩ := KC.out rfl
      go_wp2
      go_ret
      exact ⟨rfl, hG7⟩
    · obtain rfl := KB.out rfl
      go_wp2
      go_ret
      exact ⟨rfl, hG7⟩
    · obtain rfl := KB.out rfl
      obtain ⟨rfl, rfl, rfl⟩ := KC.out rfl
      go_wp2
      go_ret
      exact ⟨rfl, hG7⟩
  · have t0 : decide (100 < (s.size : Int)) = true := decide_eq_true (by omega)
    clear hpk hrpk hnm hrnm hpn hqk
    go_enter Try.func12, Try.ntmps12
    go_wp2_with fail
    refine ha.mono ?_
    rintro e x1 ⟨rfl, hg1⟩
    have hG1 := hga.trans hg1
    clear ha
    go_wp2
    go_ret
    exact ⟨rfl, hG1⟩
end Go.Proofs.Ck
