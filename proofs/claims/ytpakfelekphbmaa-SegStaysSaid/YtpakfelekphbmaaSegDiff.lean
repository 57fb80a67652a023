/- SegDiff: the walk. -/
import Derived.Test.YtpakfelekphbmaaFill
namespace Go.Proofs.Ck
open Go Go.RowKit

theorem diffs_self (a : List Nat) (k : Nat) : diffs a a k = [] := by
  induction k with
  | zero => rfl
  | succ k ih => rw [diffs_miss rfl, ih]

theorem fill_small {size : Nat} (h : size ≤ 800) (l : List (Nat × Nat)) : (fillW size l).length ≤ 100 := by
  rw [fillW_length, fresh_length]
  split <;> omega

set_option maxRecDepth 100000 in
set_option maxHeartbeats 2000000 in
theorem segDiff {w : World} {A0 A1 : Option Addr} {c0 c1 : Nat} {l0 l1 : List (Nat × Nat)} (n0 n1 : Nat) (h0 : n0 < 18446744073709551616) (h1 : n1 < 18446744073709551616)
    (hl0 : Puts (fun b => b < w.heap.size) w A0 l0) (hl1 : Puts (fun b => b < w.heap.size) w A1 l1) (hm0 : l0.length ≤ 9223372036854775807) (hm1 : l1.length ≤ 9223372036854775807)
    (hx0 : ∀ p ∈ l0, p.1 < 18446744073709551616 ∧ p.2 < 18446744073709551616) (hx1 : ∀ p ∈ l1, p.1 < 18446744073709551616 ∧ p.2 < 18446744073709551616) :
    Calls Try.prog 4 #[.agg #[.int .u64 (n0 : Int), .int .u64 (n1 : Int)], .slice A0 l0.length c0, .slice A1 l1.length c1] w fun e w' => e = .returned (.bool true) ∧ Grow w w' := by
  have hg0 : Grow w (w.alloc (.cells #[.int .u64 (n0 : Int), .int .u64 (n1 : Int)] 37)) := (Below.refl _ _).alloc (Nat.le_refl _) _
  have hB : (w.alloc (.cells #[.int .u64 (n0 : Int), .int .u64 (n1 : Int)] 37)).heap[w.heap.size]? = some (.cells #[.int .u64 (n0 : Int), .int .u64 (n1 : Int)] 37 (0, 0)) := (MapKept.heap_alloc w _).1
  go_enter Try.func4, Try.ntmps4
  go_wp2_with fail
  generalize w.alloc (.cells #[.int .u64 (n0 : Int), .int .u64 (n1 : Int)] 37) = wb at hg0 hB ⊢
  refine (awake2 wb).mono ?_
  rintro e w1 ⟨rfl, hg1⟩
  have hB1 := hg1.heap hB
  have b0 : w1.cell? ⟨w.heap.size, 0, none⟩ = some (.int .u64 (n0 : Int)) := by rw [cell_of_heap hB1]; rfl
  have b1 : w1.cell? ⟨w.heap.size, 1, none⟩ = some (.int .u64 (n1 : Int)) := by rw [cell_of_heap hB1]; rfl
  have hg01 := hg0.trans hg1
  clear hB hg1 hg0
  by_cases hb : n0 ≤ 800 ∧ n1 ≤ 800
  · obtain ⟨hb0, hb1⟩ := hb
    have t0 : decide (800 < (n0 : Int)) = false := decide_eq_false (by omega)
    have t1 : decide (800 < (n1 : Int)) = false := decide_eq_false (by omega)
    go_wp2_with fail
    have hl0' : Puts (fun b => b < w1.heap.size) w1 A0 l0 := (hl0.grow hg01).mono fun b _ hb => Nat.lt_of_lt_of_le hb hg01.size
    refine (filled (c := c0) n0 h0 hl0' hm0 hx0).mono ?_
    rintro e w2 ⟨s0, y0, B0, d0, ⟨rfl, hs0, hr0, -⟩, hg2⟩
    have hB2 := hg2.heap hB1
    have b1' : w2.cell? ⟨w.heap.size, 1, none⟩ = some (.int .u64 (n1 : Int)) := by rw [cell_of_heap hB2]; rfl
    have hg02 := hg01.trans hg2
    have hL0 := fill_small hb0 (l0.take 40)
    have hf0 : (fresh n0).length = (fillW n0 (l0.take 40)).length := (fillW_length _ _).symm
    clear hl0 hl0' hx0 hB1 b0 b1 hg2 hg01
    rw [hf0] at hr0 ⊢
    generalize fillW n0 (l0.take 40) = W0 at hs0 hr0 hL0 ⊢
    clear hf0
    go_wp2_with fail
    have hl1' : Puts (fun b => b < w2.heap.size) w2 A1 l1 := (hl1.grow hg02).mono fun b _ hb => Nat.lt_of_lt_of_le hb hg02.size
    refine (filled (c := c1) n1 h1 hl1' hm1 hx1).mono ?_
    rintro e w3 ⟨s1, y1, B1, d1, ⟨rfl, hs1, hr1, -⟩, hg3⟩
    have hg03 := hg02.trans hg3
    have hL1 := fill_small hb1 (l1.take 40)
    have hf1 : (fresh n1).length = (fillW n1 (l1.take 40)).length := (fillW_length _ _).symm
    have hs0' := hs0.grow hg3
    have hr0' := hr0.grow hg3
    clear hl1 hl1' hx1 hB2 b1' hs0 hr0 hg02
    rw [hf1] at hr1 ⊢
    generalize fillW n1 (l1.take 40) = W1 at hs1 hr1 hL1 ⊢
    clear hf1
    have k0 := hs0'.like
    have k1 := hs1.like
    clear hs0' hs1 hg3
    go_wp2_with fail
    refine (sdiff k0 k1).mono ?_
    rintro e w4 ⟨⟨D0, e0, rfl, hd0⟩, hg4⟩
    have hr0 := hr0'.grow hg4
    have hr1' := hr1.grow hg4
    have hg04 := hg03.trans hg4
    have k0' := k0.grow hg4
    have hlen : (diffs W0 W1 (max W0.length W1.length)).length ≤ 100 := Nat.le_trans (diffs_len _ _ _) (by omega)
    clear k0 k1 hr0' hr1 hg03 hg4
    have hrd := rdiff (c0 := d0) (c1 := d1) hr0 hr1' (by omega) (by omega)
    clear hr0 hr1'
    generalize hW : diffs W0 W1 (max W0.length W1.length) = D at hd0 hlen hrd ⊢
    have HW := Lib.hid hW
    clear hW
    go_wp2_with fail
    refine hrd.mono ?_
    rintro e w5 ⟨⟨D1, e1, rfl, hd1⟩, hg5⟩
    have hd0' := hd0.grow hg5
    have hg05 := hg04.trans hg5
    have k0 := k0'.grow hg5
    clear hrd hd0 k0' hg04 hg5
    have hn := rnums (c0 := e0) (c1 := e1) hd0' hd1 (by omega)
    rw [decide_eq_true (rfl : D = D)] at hn
    clear hd0' hd1
    go_wp2_with fail
    refine hn.mono ?_
    rintro e w6 ⟨rfl, hg6⟩
    have hg06 := hg05.trans hg6
    have k6 := k0.grow hg6
    clear hn k0 hg05 hg6
    go_wp2_with fail
    refine (sdiff k6 k6).mono ?_
    rintro e w7 ⟨⟨D2, e2, rfl, -⟩, hg7⟩
    have hg := hg06.trans hg7
    rw [diffs_self]
    clear k6 hg06 hg7
    go_wp2
    go_ret
    exact ⟨rfl, hg⟩
  · by_cases hb0 : n0 ≤ 800
    · have t0 : decide (800 < (n0 : Int)) = false := decide_eq_false (by omega)
      have t1 : decide (800 < (n1 : Int)) = true := decide_eq_true (by omega)
      go_wp2
      go_ret
      exact ⟨rfl, hg01⟩
    · have t0 : decide (800 < (n0 : Int)) = true := decide_eq_true (by omega)
      go_wp2
      go_ret
      exact ⟨rfl, hg01⟩
end Go.Proofs.Ck
