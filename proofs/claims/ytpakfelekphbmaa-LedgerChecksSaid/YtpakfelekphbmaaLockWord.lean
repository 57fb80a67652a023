/- LockWord: the walk. -/
import Derived.Test.YtpakfelekphbmaaAwake18
namespace Go.Proofs.Ck
open Go Go.RowKit

/-- What a client's taking tells: the word, or that it may not be. -/
def Took (c a b k : Int) : Prop := (0 ≤ c ∧ c < 8 ∧ a = 24 ∧ b = c + 1 ∧ k = 0) ∨ (¬ (0 ≤ c ∧ c < 8) ∧ a = 0 ∧ b = 0 ∧ k = 1)
theorem take_any (w : World) (c : Int) : Calls Try.prog 77 #[.int .i64 c] w fun e w' => ∃ a b k, e = .returned (.tuple #[.agg #[.int .u64 a, .int .u64 b], .int .i64 k]) ∧ Took c a b k ∧ Grow w w' := by
  by_cases hc : 0 ≤ c ∧ c < 8
  · obtain ⟨C, rfl⟩ := Int.eq_ofNat_of_zero_le hc.1
    exact (take_ok w C (by omega)).mono fun e w' ⟨h1, h2⟩ => ⟨24, (C : Int) + 1, 0, by rw [h1]; simp, .inl ⟨hc.1, hc.2, rfl, rfl, rfl⟩, h2⟩
  · exact (take_bad w c hc).mono fun e w' ⟨h1, h2⟩ => ⟨0, 0, 1, h1, .inr ⟨hc, rfl, rfl, rfl⟩, h2⟩

set_option maxRecDepth 100000 in
set_option maxHeartbeats 4000000 in
theorem lockWord (w : World) (c d : Int) :
    Calls Try.prog 15 #[.int .i64 c, .int .i64 d] w fun e w' => e = .returned (.bool true) ∧ Grow w w' := by
  go_enter Try.func15, Try.ntmps15
  go_wp2_with fail
  refine (awake18 w).mono ?_
  rintro e w1 ⟨rfl, hg⟩
  go_wp2_with fail
  refine (take_any w1 c).mono ?_
  rintro e w2 ⟨a, b, k, rfl, hk, hg2⟩
  have g2 := hg.trans hg2
  have ga : Grow w2 (w2.alloc (Obj.cells #[Value.int .u64 a, Value.int .u64 b] 73)) := (Below.refl _ _).alloc (Nat.le_refl _) _
  have ha := World.alloc_heap_new w2 (Obj.cells #[Value.int .u64 a, Value.int .u64 b] 73)
  go_wp2_with fail
  generalize w2.alloc (Obj.cells #[Value.int .u64 a, Value.int .u64 b] 73) = w3 at ga ha ⊢
  refine (take_any w3 d).mono ?_
  rintro e w4 ⟨a', b', k', rfl, hk', hg4⟩
  have ha4 := hg4.heap ha
  have g4 := (g2.trans ga).trans hg4
  have gb : Grow w4 (w4.alloc (Obj.cells #[Value.int .u64 a', Value.int .u64 b'] 73)) := (Below.refl _ _).alloc (Nat.le_refl _) _
  have hb := World.alloc_heap_new w4 (Obj.cells #[Value.int .u64 a', Value.int .u64 b'] 73)
  have ha5 := gb.heap ha4
  clear hg hg2 g2 ga ha hg4 ha4
  go_wp2_with fail
  generalize w4.alloc (Obj.cells #[Value.int .u64 a', Value.int .u64 b'] 73) = w5 at gb hb ha5 ⊢
  refine (leave w5).mono ?_
  rintro e w6 ⟨rfl, hg6⟩
  have gl : Grow w6 (w6.alloc (Obj.cells #[Value.int .u64 24, Value.int .u64 0] 73)) := (Below.refl _ _).alloc (Nat.le_refl _) _
  have hl := World.alloc_heap_new w6 (Obj.cells #[Value.int .u64 24, Value.int .u64 0] 73)
  have ha7 := gl.heap (hg6.heap ha5)
  have hb7 := gl.heap (hg6.heap hb)
  have g7 := ((g4.trans gb).trans hg6).trans gl
  clear g4 gb hb ha5 hg6 gl
  have A0 : (w6.alloc (Obj.cells #[Value.int .u64 24, Value.int .u64 0] 73)).cell? ⟨w2.heap.size, 0, none⟩ = some (.int .u64 a) := by rw [cell_of_heap ha7]; rfl
  have A1 : (w6.alloc (Obj.cells #[Value.int .u64 24, Value.int .u64 0] 73)).cell? ⟨w2.heap.size, 1, none⟩ = some (.int .u64 b) := by rw [cell_of_heap ha7]; rfl
  have B0 : (w6.alloc (Obj.cells #[Value.int .u64 24, Value.int .u64 0] 73)).cell? ⟨w4.heap.size, 0, none⟩ = some (.int .u64 a') := by rw [cell_of_heap hb7]; rfl
  have B1 : (w6.alloc (Obj.cells #[Value.int .u64 24, Value.int .u64 0] 73)).cell? ⟨w4.heap.size, 1, none⟩ = some (.int .u64 b') := by rw [cell_of_heap hb7]; rfl
  have L0 : (w6.alloc (Obj.cells #[Value.int .u64 24, Value.int .u64 0] 73)).cell? ⟨w6.heap.size, 0, none⟩ = some (.int .u64 24) := by rw [cell_of_heap hl]; rfl
  have L1 : (w6.alloc (Obj.cells #[Value.int .u64 24, Value.int .u64 0] 73)).cell? ⟨w6.heap.size, 1, none⟩ = some (.int .u64 0) := by rw [cell_of_heap hl]; rfl
  clear ha7 hb7 hl
  rcases hk with ⟨hc0, hc8, rfl, rfl, rfl⟩ | ⟨hc, rfl, rfl, rfl⟩ <;> rcases hk' with ⟨hd0, hd8, rfl, rfl, rfl⟩ | ⟨hd, rfl, rfl, rfl⟩
  · by_cases hcd : c = d
    · subst hcd
      have t1 : (c + 1 == 0) = false := by rw [beq_eq_false_iff_ne]; omega
      go_wp2
      go_ret
      exact ⟨rfl, g7⟩
    · have t1 : (c + 1 == d + 1) = false := by rw [beq_eq_false_iff_ne]; omega
      have t2 : (c == d) = false := by rw [beq_eq_false_iff_ne]; omega
      have t3 : (c + 1 == 0) = false := by rw [beq_eq_false_iff_ne]; omega
      go_wp2
      go_ret
      exact ⟨rfl, g7⟩
  · go_wp2
    go_ret
    exact ⟨rfl, g7⟩
  · go_wp2
    go_ret
    exact ⟨rfl, g7⟩
  · go_wp2
    go_ret
    exact ⟨rfl, g7⟩
end Go.Proofs.Ck
