/- The lock: may a client take it? -/
import Derived.Test.YtpakfelekphbmaaClient1
namespace Go.Proofs.Ck
open Go Go.RowKit

/-- May a client take the lock, by the words? -/
def mayB (f : Nat → Nat) (c : Int) : Bool :=
  decide (0 ≤ c ∧ c < 8) && (!decide (1 ≤ f 24 ∧ f 24 ≤ 8) || (decide (((f 24 - 1 : Nat) : Int) ≠ c) && decide (f (64 + 416 * (f 24 - 1)) = 2)))

theorem dead_call {w : World} {v : Value} {f : Nat → Nat} (h : TxAny w v f) {bx : Nat} (hb : w.heap[bx]? = some (.cells #[v] 65 (0, 0))) (c : Nat) (hc : c < 8) :
    Calls Try.prog 158 #[.int .i64 (c : Int), .pointer (some ⟨bx, 0, none⟩)] w fun e w' => e = .returned (.bool (decide (f (64 + 416 * c) = 2))) ∧ Grow w w' := by
  have c0 : w.cell? ⟨bx, 0, none⟩ = some v := by rw [cell_of_heap hb]; rfl
  have hs := state_ok h c hc
  generalize f (64 + 416 * c) = x at *
  by_cases hx : x = 2
  · subst hx
    rw [decide_eq_true rfl]
    go_enter Try.func158, Try.ntmps158
    go_wp2_with fail
    refine hs.mono ?_
    rintro e w' ⟨rfl, hg⟩
    clear hs
    go_wp2
    go_ret
    exact ⟨rfl, hg⟩
  · have t : ((x : Int) == 2) = false := by rw [beq_eq_false_iff_ne]; omega
    rw [decide_eq_false hx]
    go_enter Try.func158, Try.ntmps158
    go_wp2_with fail
    refine hs.mono ?_
    rintro e w' ⟨rfl, hg⟩
    clear hs
    go_wp2
    go_ret
    exact ⟨rfl, hg⟩

theorem TxAny.ptr {w : World} {v : Value} {f : Nat → Nat} (h : TxAny w v f) : ∃ p, v = .pointer p := by
  rcases h with ⟨h, _⟩ | ⟨base, M, σ, ⟨tb, mb, T, sb, bb, cap, cs, h, _⟩, _⟩
  · exact ⟨none, h⟩
  · exact ⟨_, h⟩

set_option maxRecDepth 100000 in
set_option maxHeartbeats 1000000 in
theorem may_call {w : World} {v : Value} {f : Nat → Nat} (h : TxAny w v f) (c : Int) :
    Calls Try.prog 79 #[v, .int .i64 c] w fun e w' => e = .returned (.bool (mayB f c)) ∧ Grow w w' := by
  obtain ⟨p, rfl⟩ := h.ptr
  have hg0 : Grow w (w.alloc (.cells #[.pointer p] 65)) := (Below.refl _ _).alloc (Nat.le_refl _) _
  have hB : (w.alloc (.cells #[.pointer p] 65)).heap[w.heap.size]? = some (.cells #[.pointer p] 65 (0, 0)) := World.alloc_heap_new w _
  have h0 := h.grow hg0
  clear h
  unfold mayB
  by_cases hc : 0 ≤ c ∧ c < 8
  · rw [decide_eq_true hc, Bool.true_and]
    obtain ⟨C, rfl⟩ := Int.eq_ofNat_of_zero_le hc.1
    have hC : C < 8 := by omega
    by_cases hh : 1 ≤ f 24 ∧ f 24 ≤ 8
    · rw [decide_eq_true hh, Bool.not_true, Bool.false_or]
      have hd : ∀ (w2 : World), TxAny w2 (.pointer p) f → w2.heap[w.heap.size]? = some (.cells #[.pointer p] 65 (0, 0)) → Calls Try.prog 158 #[.int .i64 ((f 24 - 1 : Nat) : Int), .pointer (some ⟨w.heap.size, 0, none⟩)] w2 fun e w' => e = .returned (.bool (decide (f (64 + 416 * (f 24 - 1)) = 2))) ∧ Grow w2 w' :=
        fun w2 h2 hb2 => dead_call h2 hb2 (f 24 - 1) (by omega)
      have ho : ∀ (w2 : World), TxAny w2 (.pointer p) f → Calls Try.prog 75 #[.pointer p] w2 fun e w' => e = .returned (.tuple #[.int .i64 ((f 24 - 1 : Nat) : Int), .bool true]) ∧ Grow w2 w' := fun w2 h2 => holder_ok h2 hh.1 hh.2
      generalize decide (f (64 + 416 * (f 24 - 1)) = 2) = D at *
      generalize f 24 - 1 = H at *
      by_cases hne : ((H : Nat) : Int) ≠ (C : Int)
      · rw [decide_eq_true hne, Bool.true_and]
        have t1 : ((H : Int) != C) = true := by rw [bne_iff_ne]; exact hne
        go_enter Try.func79, Try.ntmps79
        go_wp2_with fail
        generalize w.alloc (.cells #[.pointer p] 65) = w1 at *
        refine (take_ok w1 C hC).mono ?_
        rintro e w2 ⟨rfl, hg1⟩
        have hg2 : Grow w2 (w2.alloc (.cells #[.int .u64 24, .int .u64 ((C : Int) + 1)] 73)) := (Below.refl _ _).alloc (Nat.le_refl _) _
        have h2 := (h0.grow hg1).grow hg2
        have hB2 := hg2.heap (hg1.heap hB)
        have hg02 := (hg0.trans hg1).trans hg2
        have b0 : (w2.alloc (.cells #[.int .u64 24, .int .u64 ((C : Int) + 1)] 73)).cell? ⟨w.heap.size, 0, none⟩ = some (.pointer p) := by rw [cell_of_heap hB2]; rfl
        clear h0 hB hg0 hg1 hg2
        go_wp2_with fail
        generalize w2.alloc (.cells #[.int .u64 24, .int .u64 ((C : Int) + 1)] 73) = w3 at h2 hB2 hg02 b0 ⊢
        refine (ho w3 h2).mono ?_
        rintro e w4 ⟨rfl, hg4⟩
        have h4 := h2.grow hg4
        have hB4 := hg4.heap hB2
        have hg04 := hg02.trans hg4
        clear h2 hB2 hg02 hg4 b0
        go_wp2_with fail
        refine (hd w4 h4 hB4).mono ?_
        rintro e w5 ⟨rfl, hg5⟩
        have hg05 := hg04.trans hg5
        clear h4 hB4 hg04 hg5 hd ho
        cases D
        · go_wp2
          go_ret
          exact ⟨rfl, hg05⟩
        · go_wp2
          go_ret
          exact ⟨rfl, hg05⟩
      · have hHC : H = C := by omega
        subst hHC
        rw [decide_eq_false hne, Bool.false_and]
        have t1 : ((H : Int) != H) = false := by simp
        go_enter Try.func79, Try.ntmps79
        go_wp2_with fail
        generalize w.alloc (.cells #[.pointer p] 65) = w1 at *
        refine (take_ok w1 H hC).mono ?_
        rintro e w2 ⟨rfl, hg1⟩
        have hg2 : Grow w2 (w2.alloc (.cells #[.int .u64 24, .int .u64 ((H : Int) + 1)] 73)) := (Below.refl _ _).alloc (Nat.le_refl _) _
        have h2 := (h0.grow hg1).grow hg2
        have hB2 := hg2.heap (hg1.heap hB)
        have hg02 := (hg0.trans hg1).trans hg2
        have b0 : (w2.alloc (.cells #[.int .u64 24, .int .u64 ((H : Int) + 1)] 73)).cell? ⟨w.heap.size, 0, none⟩ = some (.pointer p) := by rw [cell_of_heap hB2]; rfl
        clear h0 hB hg0 hg1 hg2
        go_wp2_with fail
        generalize w2.alloc (.cells #[.int .u64 24, .int .u64 ((H : Int) + 1)] 73) = w3 at h2 hB2 hg02 b0 ⊢
        refine (ho w3 h2).mono ?_
        rintro e w4 ⟨rfl, hg4⟩
        have hg04 := hg02.trans hg4
        clear h2 hB2 hg02 hg4 b0 hd ho
        go_wp2
        go_ret
        exact ⟨rfl, hg04⟩
    · rw [decide_eq_false hh, Bool.not_false, Bool.true_or]
      have ho : ∀ (w2 : World), TxAny w2 (.pointer p) f → Calls Try.prog 75 #[.pointer p] w2 fun e w' => e = .returned (.tuple #[.int .i64 0, .bool false]) ∧ Grow w2 w' := fun w2 h2 => holder_bad h2 hh
      clear hh
      go_enter Try.func79, Try.ntmps79
      go_wp2_with fail
      generalize w.alloc (.cells #[.pointer p] 65) = w1 at *
      refine (take_ok w1 C hC).mono ?_
      rintro e w2 ⟨rfl, hg1⟩
      have hg2 : Grow w2 (w2.alloc (.cells #[.int .u64 24, .int .u64 ((C : Int) + 1)] 73)) := (Below.refl _ _).alloc (Nat.le_refl _) _
      have h2 := (h0.grow hg1).grow hg2
      have hB2 := hg2.heap (hg1.heap hB)
      have hg02 := (hg0.trans hg1).trans hg2
      have b0 : (w2.alloc (.cells #[.int .u64 24, .int .u64 ((C : Int) + 1)] 73)).cell? ⟨w.heap.size, 0, none⟩ = some (.pointer p) := by rw [cell_of_heap hB2]; rfl
      clear h0 hB hg0 hg1 hg2
      go_wp2_with fail
      generalize w2.alloc (.cells #[.int .u64 24, .int .u64 ((C : Int) + 1)] 73) = w3 at h2 hB2 hg02 b0 ⊢
      refine (ho w3 h2).mono ?_
      rintro e w4 ⟨rfl, hg4⟩
      have hg04 := hg02.trans hg4
      clear h2 hB2 hg02 hg4 b0 ho
      go_wp2
      go_ret
      exact ⟨rfl, hg04⟩
  · rw [decide_eq_false hc, Bool.false_and]
    go_enter Try.func79, Try.ntmps79
    go_wp2_with fail
    generalize w.alloc (.cells #[.pointer p] 65) = w1 at *
    refine (take_bad w1 c hc).mono ?_
    rintro e w2 ⟨rfl, hg1⟩
    have hg2 : Grow w2 (w2.alloc (.cells #[.int .u64 0, .int .u64 0] 73)) := (Below.refl _ _).alloc (Nat.le_refl _) _
    have hg02 := (hg0.trans hg1).trans hg2
    clear h0 hB hg0 hg1 hg2
    go_wp2
    go_ret
    exact ⟨rfl, hg02⟩
end Go.Proofs.Ck
