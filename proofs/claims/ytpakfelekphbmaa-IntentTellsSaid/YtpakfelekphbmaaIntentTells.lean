/- IntentTells: the walk. -/
import Derived.Test.YtpakfelekphbmaaIntentReads
namespace Go.Proofs.Ck
open Go Go.RowKit

/-- The words that lay a log, told alike. -/
theorem words_alike (c : Int) (l : List (Nat × Nat)) (hn : l.length ≤ 9223372036854775807) : ∃ (L : List (Nat × Nat)) (k : Int), L.length ≤ 48 ∧
    (∀ (S : Nat → Prop) (w : World) (A : Option Addr) (n : Nat), Puts S w A l → Calls Try.prog 86 #[.int .i64 c, .slice A l.length n] w fun e w' => ∃ B m, e = .returned (.tuple #[.slice B L.length m, .int .i64 k]) ∧ Puts (fun _ => True) w' B L ∧ Grow w w') ∧
    ∀ (S : Nat → Prop) (w : World) (A : Option Addr) (n : Nat), Puts S w A l → Calls Try.prog 87 #[.int .i64 c, .slice A l.length n] w fun e w' => ∃ B m, e = .returned (.tuple #[.slice B L.length m, .int .i64 k]) ∧ Puts (fun _ => True) w' B L ∧ Grow w w' := by
  by_cases h : (0 ≤ c ∧ c < 8) ∧ l.length ≤ 24
  · obtain ⟨C, rfl⟩ := Int.eq_ofNat_of_zero_le h.1.1
    have hC : C < 8 := by have := h.1.2; omega
    refine ⟨logN C l l.length, 0, by rw [logN_length]; have := h.2; omega, fun S w A n hl => ?_, fun S w A n hl => ?_⟩
    · refine (words_ok hC hl h.2).mono fun e w' ⟨B, m, h1, h2, h3⟩ => ⟨B, m, by rw [h1, logN_length], ?_, h3⟩
      show Row _ _ _ (logN C l l.length).length 2 _
      rw [logN_length]
      exact h2.mono fun _ _ _ => trivial
    · refine (rwords_ok hC hl h.2).mono fun e w' ⟨B, m, h1, h2, h3⟩ => ⟨B, m, by rw [h1, logN_length], ?_, h3⟩
      show Row _ _ _ (logN C l l.length).length 2 _
      rw [logN_length]
      exact h2.mono fun _ _ _ => trivial
  · have hb : ¬ (0 ≤ c ∧ c < 8) ∨ 24 < l.length := by
      by_cases hc : 0 ≤ c ∧ c < 8
      · exact .inr (Nat.lt_of_not_le fun hh => h ⟨hc, hh⟩)
      · exact .inl hc
    refine ⟨[], (if 0 ≤ c ∧ c < 8 then 9 else 1), by simp, fun S w A n _ => ?_, fun S w A n _ => ?_⟩
    · exact (words_bad w A l.length n c hb hn).mono fun e w' ⟨h1, h2⟩ => ⟨none, 0, h1, Row.empty, h2 ▸ Below.refl _ _⟩
    · exact (rwords_bad w A l.length n c hb hn).mono fun e w' ⟨h1, h2⟩ => ⟨none, 0, h1, Row.empty, h2 ▸ Below.refl _ _⟩

set_option maxRecDepth 100000 in
set_option maxHeartbeats 4000000 in
theorem intentTells {w : World} {A : Option Addr} {n : Nat} {l : List (Nat × Nat)} (c m : Int) (hl : Puts (fun b => b < w.heap.size) w A l) (hm : l.length ≤ 9223372036854775807) :
    Calls Try.prog 18 #[.int .i64 c, .slice A l.length n, .int .i64 m] w fun e w' => e = .returned (.bool true) ∧ Grow w w' := by
  by_cases h40 : l.length ≤ 40
  · have t0 : decide ((40 : Int) < l.length) = false := decide_eq_false (by omega)
    obtain ⟨L, k, hL, hw1, hw2⟩ := words_alike c l hm
    obtain ⟨a1, b1, k1, hc1, hc2⟩ := commits c m
    obtain ⟨a2, b2, k2, hd1, hd2⟩ := commits c 0
    have he := clear17 hd1
    clear hd1
    go_enter Try.func18, Try.ntmps18
    go_wp2_with fail
    refine (awake17 w).mono ?_
    rintro e w1 ⟨rfl, hg⟩
    go_wp2_with fail
    refine (hw1 _ _ _ n (hl.grow hg)).mono ?_
    rintro e w2 ⟨B1, m1, rfl, r1, hg2⟩
    have hg := hg.trans hg2
    clear hw1 hg2
    go_wp2_with fail
    refine (hw2 _ _ _ n (hl.grow hg)).mono ?_
    rintro e w3 ⟨B2, m2, rfl, r2, hg2⟩
    have hg := hg.trans hg2
    have r1 := r1.grow hg2
    clear hw2 hg2 hl
    go_wp2_with fail
    refine (hc1 _).mono ?_
    rintro e w4 ⟨rfl, hg2⟩
    have hg2 := hg2.trans ((Below.refl _ _).alloc (Nat.le_refl _) (Obj.cells #[.int .u64 a1, .int .u64 b1] 73))
    have h4 := World.alloc_heap_new w4 (Obj.cells #[.int .u64 a1, .int .u64 b1] 73)
    go_wp2_with fail
    generalize w4.alloc (Obj.cells #[.int .u64 a1, .int .u64 b1] 73) = w5 at *
    have hg := hg.trans hg2
    have r1 := r1.grow hg2
    have r2 := r2.grow hg2
    clear hg2 hc1
    refine (hc2 _).mono ?_
    rintro e w6 ⟨rfl, hg2⟩
    have hg2 := hg2.trans ((Below.refl _ _).alloc (Nat.le_refl _) (Obj.cells #[.int .u64 a1, .int .u64 b1] 73))
    have h6 := World.alloc_heap_new w6 (Obj.cells #[.int .u64 a1, .int .u64 b1] 73)
    go_wp2_with fail
    generalize w6.alloc (Obj.cells #[.int .u64 a1, .int .u64 b1] 73) = w7 at *
    have hg := hg.trans hg2
    have r1 := r1.grow hg2
    have r2 := r2.grow hg2
    have h4 := hg2.heap h4
    clear hg2 hc2
    refine (he _).mono ?_
    rintro e w8 ⟨rfl, hg2⟩
    have hg2 := hg2.trans ((Below.refl _ _).alloc (Nat.le_refl _) (Obj.cells #[.int .u64 a2, .int .u64 b2] 73))
    have h8 := World.alloc_heap_new w8 (Obj.cells #[.int .u64 a2, .int .u64 b2] 73)
    go_wp2_with fail
    generalize w8.alloc (Obj.cells #[.int .u64 a2, .int .u64 b2] 73) = w9 at *
    have hg := hg.trans hg2
    have r1 := r1.grow hg2
    have r2 := r2.grow hg2
    have h4 := hg2.heap h4
    have h6 := hg2.heap h6
    clear hg2 he
    refine (hd2 _).mono ?_
    rintro e w10 ⟨rfl, hg2⟩
    have hg2 := hg2.trans ((Below.refl _ _).alloc (Nat.le_refl _) (Obj.cells #[.int .u64 a2, .int .u64 b2] 73))
    have h10 := World.alloc_heap_new w10 (Obj.cells #[.int .u64 a2, .int .u64 b2] 73)
    go_wp2_with fail
    generalize w10.alloc (Obj.cells #[.int .u64 a2, .int .u64 b2] 73) = w11 at *
    have hg := hg.trans hg2
    have r1 := r1.grow hg2
    have r2 := r2.grow hg2
    have h4 := hg2.heap h4
    have h6 := hg2.heap h6
    have h8 := hg2.heap h8
    clear hg2 hd2
    refine (same_self r1 r2 (by omega)).mono ?_
    rintro e w12 ⟨rfl, hg2⟩
    have hg := hg.trans hg2
    have h4 := hg2.heap h4
    have h6 := hg2.heap h6
    have h8 := hg2.heap h8
    have h10 := hg2.heap h10
    clear hg2 r1 r2
    have p0 : w12.cell? ⟨w4.heap.size, 0, none⟩ = some (.int .u64 a1) := by rw [cell_of_heap h4]; rfl
    have p1 : w12.cell? ⟨w4.heap.size, 1, none⟩ = some (.int .u64 b1) := by rw [cell_of_heap h4]; rfl
    have p2 : w12.cell? ⟨w6.heap.size, 0, none⟩ = some (.int .u64 a1) := by rw [cell_of_heap h6]; rfl
    have p3 : w12.cell? ⟨w6.heap.size, 1, none⟩ = some (.int .u64 b1) := by rw [cell_of_heap h6]; rfl
    have p4 : w12.cell? ⟨w8.heap.size, 0, none⟩ = some (.int .u64 a2) := by rw [cell_of_heap h8]; rfl
    have p5 : w12.cell? ⟨w8.heap.size, 1, none⟩ = some (.int .u64 b2) := by rw [cell_of_heap h8]; rfl
    have p6 : w12.cell? ⟨w10.heap.size, 0, none⟩ = some (.int .u64 a2) := by rw [cell_of_heap h10]; rfl
    have p7 : w12.cell? ⟨w10.heap.size, 1, none⟩ = some (.int .u64 b2) := by rw [cell_of_heap h10]; rfl
    clear h4 h6 h8 h10
    have q1 : (a1 == a1) = true := by simp
    have q2 : (b1 == b1) = true := by simp
    have q3 : (k1 == k1) = true := by simp
    have q4 : (a2 == a2) = true := by simp
    have q5 : (b2 == b2) = true := by simp
    have q6 : (k2 == k2) = true := by simp
    have q7 : (k == k) = true := by simp
    go_wp2
    go_ret
    exact ⟨rfl, hg⟩
  · have t0 : decide ((40 : Int) < l.length) = true := decide_eq_true (by omega)
    go_enter Try.func18, Try.ntmps18
    go_wp2_with fail
    refine (awake17 w).mono ?_
    rintro e w1 ⟨rfl, hg⟩
    go_wp2
    go_ret
    exact ⟨rfl, hg⟩
end Go.Proofs.Ck
