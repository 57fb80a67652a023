/- Logs: where words stand, the words that lay a log, and that say how many count. -/
import Derived.Test.YtpakfelekphbmaaLawRow
import Derived.Test.YtpakfelekphbmaaRef8
namespace Go.Proofs.Ck
open Go Go.RowKit

theorem there (w : World) (c : Int) : Calls Try.prog 160 #[.int .i64 c] w fun e w' => e = .returned (.bool (decide (0 ≤ c ∧ c < 8))) ∧ w = w' := by
  by_cases h : 0 ≤ c ∧ c < 8
  · rw [decide_eq_true h]
    obtain ⟨C, rfl⟩ := Int.eq_ofNat_of_zero_le h.1
    have hw := word_ok w C 0 (by omega) rfl (by omega)
    generalize 64 + 416 * C + 0 = o at *
    clear h
    go_enter Try.func160, Try.ntmps160
    go_wp2_with fail
    refine hw.mono ?_
    rintro e w' ⟨rfl, rfl⟩
    go_wp2
    go_ret
    exact ⟨rfl, rfl⟩
  · rw [decide_eq_false h]
    have hw := word_bad w c 0 (fun hh => h ⟨hh.1, hh.2.1⟩)
    clear h
    go_enter Try.func160, Try.ntmps160
    go_wp2_with fail
    refine hw.mono ?_
    rintro e w' ⟨rfl, rfl⟩
    go_wp2
    go_ret
    exact ⟨rfl, rfl⟩
/-- Where a word of a record stands; 0 of nobody. -/
def atN (c : Int) (what : Nat) : Nat := if 0 ≤ c ∧ c < 8 ∧ what % 8 = 0 ∧ what < 416 then 64 + 416 * c.toNat + what else 0
theorem at17 (w : World) (c : Int) (what : Nat) : Calls Try.prog 161 #[.int .i64 c, .int .u64 (what : Int)] w fun e w' => e = .returned (.int .u64 ((atN c what : Nat) : Int)) ∧ w = w' := by
  unfold atN
  by_cases h : 0 ≤ c ∧ c < 8 ∧ what % 8 = 0 ∧ what < 416
  · rw [if_pos h]
    obtain ⟨C, rfl⟩ := Int.eq_ofNat_of_zero_le h.1
    have hw := word_ok w C what (by omega) h.2.2.1 h.2.2.2
    rw [show (C : Int).toNat = C from rfl]
    generalize 64 + 416 * C + what = o at *
    clear h
    go_enter Try.func161, Try.ntmps161
    go_wp2_with fail
    refine hw.mono ?_
    rintro e w' ⟨rfl, rfl⟩
    go_wp2
    go_ret
    exact ⟨rfl, rfl⟩
  · rw [if_neg h]
    have hw := word_bad w c what h
    clear h
    go_enter Try.func161, Try.ntmps161
    go_wp2_with fail
    refine hw.mono ?_
    rintro e w' ⟨rfl, rfl⟩
    go_wp2
    go_ret
    exact ⟨rfl, rfl⟩
theorem rat17 (w : World) (c : Int) (what : Nat) : Calls Try.prog 162 #[.int .i64 c, .int .u64 (what : Int)] w fun e w' => e = .returned (.int .u64 ((atN c what : Nat) : Int)) ∧ w = w' := by
  unfold atN
  by_cases h : 0 ≤ c ∧ c < 8 ∧ what % 8 = 0 ∧ what < 416
  · rw [if_pos h]
    obtain ⟨C, rfl⟩ := Int.eq_ofNat_of_zero_le h.1
    have hw := rword_ok w C what (by omega) h.2.2.1 h.2.2.2
    rw [show (C : Int).toNat = C from rfl]
    generalize 64 + 416 * C + what = o at *
    clear h
    go_enter Try.func162, Try.ntmps162
    go_wp2_with fail
    refine hw.mono ?_
    rintro e w' ⟨rfl, rfl⟩
    go_wp2
    go_ret
    exact ⟨rfl, rfl⟩
  · rw [if_neg h]
    have hw := rword_bad w c what h
    clear h
    go_enter Try.func162, Try.ntmps162
    go_wp2_with fail
    refine hw.mono ?_
    rintro e w' ⟨rfl, rfl⟩
    go_wp2
    go_ret
    exact ⟨rfl, rfl⟩
theorem atN_ok {c what : Nat} (hc : c < 8) (h8 : what % 8 = 0) (hw : what < 416) : atN (c : Int) what = 64 + 416 * c + what := by unfold atN; rw [if_pos ⟨by omega, by omega, h8, hw⟩]; rfl
theorem at_ok (w : World) {c what o : Nat} (hc : c < 8) (h8 : what % 8 = 0) (hw : what < 416) (ho : 64 + 416 * c + what = o) : Calls Try.prog 161 #[.int .i64 (c : Int), .int .u64 (what : Int)] w fun e w' => e = .returned (.int .u64 (o : Int)) ∧ w = w' := by
  have := at17 w (c : Int) what
  rwa [atN_ok hc h8 hw, ho] at this
theorem rat_ok (w : World) {c what o : Nat} (hc : c < 8) (h8 : what % 8 = 0) (hw : what < 416) (ho : 64 + 416 * c + what = o) : Calls Try.prog 162 #[.int .i64 (c : Int), .int .u64 (what : Int)] w fun e w' => e = .returned (.int .u64 (o : Int)) ∧ w = w' := by
  have := rat17 w (c : Int) what
  rwa [atN_ok hc h8 hw, ho] at this

/-- May so many words count? -/
def comOk (c n : Int) : Prop := (0 ≤ c ∧ c < 8) ∧ 0 ≤ n ∧ n ≤ 24
instance (c n : Int) : Decidable (comOk c n) := inferInstanceAs (Decidable (_ ∧ _))
theorem commit_ok (w : World) (c n o : Nat) (hc : c < 8) (hn : n ≤ 24) (ho : 64 + 416 * c + 16 = o) :
    Calls Try.prog 88 #[.int .i64 (c : Int), .int .i64 (n : Int)] w fun e w' => e = .returned (.tuple #[.agg #[.int .u64 (o : Int), .int .u64 (n : Int)], .int .i64 0]) ∧ Grow w w' := by
  have t1 : decide ((n : Int) < 0) = false := decide_eq_false (by omega)
  have t2 : decide ((24 : Int) < n) = false := decide_eq_false (by omega)
  have e2 : IntKind.u64.wrap (n : Int) = (n : Int) := by rw [IntKind.wrap_u64]; omega
  have ht := fun w => there w (c : Int)
  rw [decide_eq_true (show 0 ≤ (c : Int) ∧ (c : Int) < 8 by omega)] at ht
  have ha := fun w => at_ok w hc (show 16 % 8 = 0 from rfl) (by omega) ho
  clear ho
  go_enter Try.func88, Try.ntmps88
  go_wp2_with fail
  refine (ht _).mono ?_
  rintro e w' ⟨rfl, rfl⟩
  go_wp2_with fail
  refine (show Calls _ _ #[_, .int .u64 16] _ _ from ha _).mono ?_
  rintro e w' ⟨rfl, rfl⟩
  clear ha ht
  go_wp2
  exact results_cell_tmp73 (g := w.heap.size) rfl rfl rfl (World.alloc_heap_new w _) rfl ⟨rfl, (Below.refl _ _).alloc (Nat.le_refl _) _⟩
theorem commit_bad (w : World) (c n : Int) (h : ¬ comOk c n) :
    Calls Try.prog 88 #[.int .i64 c, .int .i64 n] w fun e w' => e = .returned (.tuple #[.agg #[.int .u64 0, .int .u64 0], .int .i64 1]) ∧ Grow w w' := by
  unfold comOk at h
  by_cases hc : 0 ≤ c ∧ c < 8
  · have ht := fun w => there w c
    rw [decide_eq_true hc] at ht
    by_cases h0 : n < 0
    · have t1 : decide (n < 0) = true := decide_eq_true h0
      clear hc h
      go_enter Try.func88, Try.ntmps88
      go_wp2_with fail
      refine (ht _).mono ?_
      rintro e w' ⟨rfl, rfl⟩
      clear ht
      go_wp2
      exact results_cell_tmp73 (g := w.heap.size) rfl rfl rfl (World.alloc_heap_new w _) rfl ⟨rfl, (Below.refl _ _).alloc (Nat.le_refl _) _⟩
    · have t1 : decide (n < 0) = false := decide_eq_false h0
      have t2 : decide (24 < n) = true := decide_eq_true (by omega)
      clear hc h
      go_enter Try.func88, Try.ntmps88
      go_wp2_with fail
      refine (ht _).mono ?_
      rintro e w' ⟨rfl, rfl⟩
      clear ht
      go_wp2
      exact results_cell_tmp73 (g := w.heap.size) rfl rfl rfl (World.alloc_heap_new w _) rfl ⟨rfl, (Below.refl _ _).alloc (Nat.le_refl _) _⟩
  · have ht := fun w => there w c
    rw [decide_eq_false hc] at ht
    clear hc h
    go_enter Try.func88, Try.ntmps88
    go_wp2_with fail
    refine (ht _).mono ?_
    rintro e w' ⟨rfl, rfl⟩
    clear ht
    go_wp2
    exact results_cell_tmp73 (g := w.heap.size) rfl rfl rfl (World.alloc_heap_new w _) rfl ⟨rfl, (Below.refl _ _).alloc (Nat.le_refl _) _⟩
theorem rcommit_ok (w : World) (c n o : Nat) (hc : c < 8) (hn : n ≤ 24) (ho : 64 + 416 * c + 16 = o) :
    Calls Try.prog 89 #[.int .i64 (c : Int), .int .i64 (n : Int)] w fun e w' => e = .returned (.tuple #[.agg #[.int .u64 (o : Int), .int .u64 (n : Int)], .int .i64 0]) ∧ Grow w w' := by
  have t0 : decide ((c : Int) < 0) = false := decide_eq_false (by omega)
  have t3 : decide ((7 : Int) < c) = false := decide_eq_false (by omega)
  have t1 : decide ((n : Int) < 0) = false := decide_eq_false (by omega)
  have t2 : decide ((24 : Int) < n) = false := decide_eq_false (by omega)
  have e2 : IntKind.u64.wrap (n : Int) = (n : Int) := by rw [IntKind.wrap_u64]; omega
  have ha := fun w => rat_ok w hc (show 16 % 8 = 0 from rfl) (by omega) ho
  clear ho
  go_enter Try.func89, Try.ntmps89
  go_wp2_with fail
  refine (show Calls _ _ #[_, .int .u64 16] _ _ from ha _).mono ?_
  rintro e w' ⟨rfl, rfl⟩
  clear ha
  go_wp2
  exact results_cell_tmp73 (g := w.heap.size) rfl rfl rfl (World.alloc_heap_new w _) rfl ⟨rfl, (Below.refl _ _).alloc (Nat.le_refl _) _⟩
theorem rcommit_bad (w : World) (c n : Int) (h : ¬ comOk c n) :
    Calls Try.prog 89 #[.int .i64 c, .int .i64 n] w fun e w' => e = .returned (.tuple #[.agg #[.int .u64 0, .int .u64 0], .int .i64 1]) ∧ Grow w w' := by
  unfold comOk at h
  by_cases hc : c < 0
  · have t0 : decide (c < 0) = true := decide_eq_true hc
    clear h
    go_enter Try.func89, Try.ntmps89
    go_wp2
    exact results_cell_tmp73 (g := w.heap.size) rfl rfl rfl (World.alloc_heap_new w _) rfl ⟨rfl, (Below.refl _ _).alloc (Nat.le_refl _) _⟩
  · have t0 : decide (c < 0) = false := decide_eq_false hc
    by_cases hc7 : 7 < c
    · have t3 : decide (7 < c) = true := decide_eq_true hc7
      clear h
      go_enter Try.func89, Try.ntmps89
      go_wp2
      exact results_cell_tmp73 (g := w.heap.size) rfl rfl rfl (World.alloc_heap_new w _) rfl ⟨rfl, (Below.refl _ _).alloc (Nat.le_refl _) _⟩
    · have t3 : decide (7 < c) = false := decide_eq_false hc7
      by_cases h0 : n < 0
      · have t1 : decide (n < 0) = true := decide_eq_true h0
        clear h
        go_enter Try.func89, Try.ntmps89
        go_wp2
        exact results_cell_tmp73 (g := w.heap.size) rfl rfl rfl (World.alloc_heap_new w _) rfl ⟨rfl, (Below.refl _ _).alloc (Nat.le_refl _) _⟩
      · have t1 : decide (n < 0) = false := decide_eq_false h0
        have t2 : decide (24 < n) = true := decide_eq_true (by omega)
        clear h
        go_enter Try.func89, Try.ntmps89
        go_wp2
        exact results_cell_tmp73 (g := w.heap.size) rfl rfl rfl (World.alloc_heap_new w _) rfl ⟨rfl, (Below.refl _ _).alloc (Nat.le_refl _) _⟩
/-- How many words count, told alike. -/
theorem commits (c n : Int) : ∃ a b k : Int, (∀ w, Calls Try.prog 88 #[.int .i64 c, .int .i64 n] w fun e w' => e = .returned (.tuple #[.agg #[.int .u64 a, .int .u64 b], .int .i64 k]) ∧ Grow w w') ∧
    ∀ w, Calls Try.prog 89 #[.int .i64 c, .int .i64 n] w fun e w' => e = .returned (.tuple #[.agg #[.int .u64 a, .int .u64 b], .int .i64 k]) ∧ Grow w w' := by
  by_cases h : comOk c n
  · obtain ⟨C, rfl⟩ := Int.eq_ofNat_of_zero_le h.1.1
    obtain ⟨N, rfl⟩ := Int.eq_ofNat_of_zero_le h.2.1
    have h1 := h.1.2
    have h2 := h.2.2
    exact ⟨_, _, _, fun w => commit_ok w C N _ (by omega) (by omega) rfl, fun w => rcommit_ok w C N _ (by omega) (by omega) rfl⟩
  · exact ⟨0, 0, 1, fun w => commit_bad w c n h, fun w => rcommit_bad w c n h⟩
/-- Clearing is: none counts. -/
theorem clear17 {c a b k : Int} (h : ∀ w, Calls Try.prog 88 #[.int .i64 c, .int .i64 0] w fun e w' => e = .returned (.tuple #[.agg #[.int .u64 a, .int .u64 b], .int .i64 k]) ∧ Grow w w') (w : World) :
    Calls Try.prog 90 #[.int .i64 c] w fun e w' => e = .returned (.tuple #[.agg #[.int .u64 a, .int .u64 b], .int .i64 k]) ∧ Grow w w' := by
  have hg0 : Grow w (w.alloc (.cells #[.int .u64 0, .int .u64 0] 73)) := (Below.refl _ _).alloc (Nat.le_refl _) _
  have hnew := World.alloc_heap_new w (.cells #[.int .u64 0, .int .u64 0] 73)
  go_enter Try.func90, Try.ntmps90
  go_wp2_with fail
  generalize w.alloc (.cells #[.int .u64 0, .int .u64 0] 73) = w1 at *
  refine (h w1).mono ?_
  rintro e w2 ⟨rfl, hg⟩
  have hB := hg.heap hnew
  have hg := hg0.trans hg
  have c0 : w2.cell? ⟨w.heap.size, 0, none⟩ = some (.int .u64 0) := by rw [cell_of_heap hB]; rfl
  have c1 : w2.cell? ⟨w.heap.size, 1, none⟩ = some (.int .u64 0) := by rw [cell_of_heap hB]; rfl
  have f0 := frozen_of_heap hB 0
  have f1 := frozen_of_heap hB 1
  clear h hg0 hnew
  go_wp2
  exact results_cell_tmp73 (g := w.heap.size) rfl rfl rfl (heap_setCell_row (heap_setCell_row hB (i := 0) _) (i := 1) _) rfl ⟨rfl, (hg.setCell (Nat.le_refl _) _).setCell (Nat.le_refl _) _⟩
end Go.Proofs.Ck
