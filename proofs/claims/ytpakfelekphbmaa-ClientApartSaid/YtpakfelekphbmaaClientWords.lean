/- ClientWords, ClientApart: the walks. -/
import Derived.Test.YtpakfelekphbmaaAwake8
import Derived.Test.YtpakfelekphbmaaRef8
namespace Go.Proofs.Ck
open Go Go.RowKit

/-- Where a word of a record stands: what is told. -/
def Told (c : Int) (what a : Nat) (b : Bool) : Prop := (b = true ∧ 0 ≤ c ∧ c < 8 ∧ what % 8 = 0 ∧ what < 416 ∧ (a : Int) = 64 + 416 * c + what) ∨ (b = false ∧ a = 0)
theorem words_any (c : Int) (what : Nat) : ∃ (a : Nat) (b : Bool), Told c what a b ∧
    (∀ w, Calls Try.prog 96 #[.int .i64 c, .int .u64 (what : Int)] w fun e w' => e = .returned (.tuple #[.int .u64 (a : Int), .bool b]) ∧ w = w') ∧
    ∀ w, Calls Try.prog 97 #[.int .i64 c, .int .u64 (what : Int)] w fun e w' => e = .returned (.tuple #[.int .u64 (a : Int), .bool b]) ∧ w = w' := by
  by_cases h : 0 ≤ c ∧ c < 8 ∧ what % 8 = 0 ∧ what < 416
  · obtain ⟨C, rfl⟩ := Int.eq_ofNat_of_zero_le h.1
    exact ⟨_, _, .inl ⟨rfl, h.1, h.2.1, h.2.2.1, h.2.2.2, by omega⟩, fun w => word_ok w C what (by omega) h.2.2.1 h.2.2.2, fun w => rword_ok w C what (by omega) h.2.2.1 h.2.2.2⟩
  · exact ⟨0, false, .inr ⟨rfl, rfl⟩, fun w => word_bad w c what h, fun w => rword_bad w c what h⟩

set_option maxRecDepth 100000 in
theorem clientWords (w : World) (c : Int) (what : Nat) : Calls Try.prog 23 #[.int .i64 c, .int .u64 (what : Int)] w fun e w' => e = .returned (.bool true) ∧ Grow w w' := by
  obtain ⟨a, b, -, h1, h2⟩ := words_any c what
  go_enter Try.func23, Try.ntmps23
  go_wp2_with fail
  refine (awake8 w).mono ?_
  rintro e w1 ⟨rfl, hg⟩
  have t2 : (b == b) = true := by simp
  go_wp2_with fail
  refine (h1 w1).mono ?_
  rintro e w' ⟨rfl, rfl⟩
  go_wp2_with fail
  refine (h2 w1).mono ?_
  rintro e w' ⟨rfl, rfl⟩
  clear h1 h2
  go_wp2
  go_ret
  exact ⟨rfl, hg⟩

set_option maxRecDepth 100000 in
set_option maxHeartbeats 1000000 in
theorem clientApart (w : World) (c d : Int) (x y : Nat) : Calls Try.prog 24 #[.agg #[.int .i64 c, .int .i64 d], .agg #[.int .u64 (x : Int), .int .u64 (y : Int)]] w fun e w' => e = .returned (.bool true) ∧ Grow w w' := by
  obtain ⟨a, b, ht, h1, -⟩ := words_any c x
  obtain ⟨a', b', ht', h1', -⟩ := words_any d y
  have hga : Grow w ((w.alloc (.cells #[.int .i64 c, .int .i64 d] 101)).alloc (.cells #[.int .u64 (x : Int), .int .u64 (y : Int)] 37)) := ((Below.refl _ _).alloc (Nat.le_refl _) _).alloc (by simp) _
  have hb0 : ((w.alloc (.cells #[.int .i64 c, .int .i64 d] 101)).alloc (.cells #[.int .u64 (x : Int), .int .u64 (y : Int)] 37)).heap[w.heap.size]? = some (.cells #[.int .i64 c, .int .i64 d] 101 (0, 0)) :=
    (Below.heap_alloc _ _ _ (by simp)).trans (World.alloc_heap_new w _)
  have hb1 : ((w.alloc (.cells #[.int .i64 c, .int .i64 d] 101)).alloc (.cells #[.int .u64 (x : Int), .int .u64 (y : Int)] 37)).heap[w.heap.size + 1]? = some (.cells #[.int .u64 (x : Int), .int .u64 (y : Int)] 37 (0, 0)) := by
    have := World.alloc_heap_new (w.alloc (.cells #[.int .i64 c, .int .i64 d] 101)) (.cells #[.int .u64 (x : Int), .int .u64 (y : Int)] 37)
    rwa [World.size_alloc] at this
  go_enter Try.func24, Try.ntmps24
  go_wp2_with fail
  generalize (w.alloc (.cells #[.int .i64 c, .int .i64 d] 101)).alloc (.cells #[.int .u64 (x : Int), .int .u64 (y : Int)] 37) = wa at *
  refine (awake8 wa).mono ?_
  rintro e w1 ⟨rfl, hg⟩
  have hb0 := hg.heap hb0
  have hb1 := hg.heap hb1
  have hg := hga.trans hg
  have c0 : w1.cell? ⟨w.heap.size, 0, none⟩ = some (.int .i64 c) := by rw [cell_of_heap hb0]; rfl
  have c1 : w1.cell? ⟨w.heap.size, 1, none⟩ = some (.int .i64 d) := by rw [cell_of_heap hb0]; rfl
  have d0 : w1.cell? ⟨w.heap.size + 1, 0, none⟩ = some (.int .u64 (x : Int)) := by rw [cell_of_heap hb1]; rfl
  have d1 : w1.cell? ⟨w.heap.size + 1, 1, none⟩ = some (.int .u64 (y : Int)) := by rw [cell_of_heap hb1]; rfl
  have al : Try.prog.arrayLen 101 = 2 := by kernel_rfl
  have al2 : Try.prog.arrayLen 37 = 2 := by kernel_rfl
  clear hga hb0 hb1
  go_wp2_with fail
  refine (h1 w1).mono ?_
  rintro e w' ⟨rfl, rfl⟩
  go_wp2_with fail
  refine (h1' w1).mono ?_
  rintro e w' ⟨rfl, rfl⟩
  clear h1 h1'
  rcases ht with ⟨rfl, p1, p2, p3, p4, p5⟩ | ⟨rfl, rfl⟩
  · rcases ht' with ⟨rfl, q1, q2, q3, q4, q5⟩ | ⟨rfl, rfl⟩
    · have ha : 64 ≤ a ∧ a + 8 ≤ 3392 ∧ a % 8 = 0 := by omega
      have t1 : decide ((64 : Int) ≤ a) = true := decide_eq_true (by omega)
      have t2 : decide ((a : Int) + 8 ≤ 3392) = true := decide_eq_true (by omega)
      have t3 : ((a : Int) % 8 == 0) = true := by rw [beq_iff_eq]; omega
      by_cases hcd : c = d
      · subst hcd
        by_cases hxy : x = y
        · subst hxy
          obtain rfl : a = a' := by omega
          clear p5 q5
          go_wp2
          go_ret
          exact ⟨rfl, hg⟩
        · have t4 : ((x : Int) == y) = false := by rw [beq_eq_false_iff_ne]; omega
          have t5 : ((a : Int) == a') = false := by rw [beq_eq_false_iff_ne]; omega
          clear p5 q5
          go_wp2
          go_ret
          exact ⟨rfl, hg⟩
      · have t4 : (c == d) = false := by rw [beq_eq_false_iff_ne]; omega
        have t5 : ((a : Int) == a') = false := by rw [beq_eq_false_iff_ne]; omega
        clear p5 q5
        go_wp2
        go_ret
        exact ⟨rfl, hg⟩
    · clear p5
      go_wp2
      go_ret
      exact ⟨rfl, hg⟩
  · go_wp2
    go_ret
    exact ⟨rfl, hg⟩
end Go.Proofs.Ck
