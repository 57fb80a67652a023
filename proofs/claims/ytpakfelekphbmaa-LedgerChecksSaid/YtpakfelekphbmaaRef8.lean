/- The document's clients and lock: reading. -/
import Derived.Test.YtpakfelekphbmaaLock2
namespace Go.Proofs.Ck
open Go Go.RowKit

theorem RefF.agg {rv : Value} {f : Nat → Nat} {w : World} {X : Nat → Prop} (h : RefF rv f w X) : ∃ A n c B m d, rv = .agg #[.slice A n c, .slice B m d] := by
  obtain ⟨σ, A, c, B, d, h1, _⟩ := h
  exact ⟨A, _, c, B, _, d, h1⟩
theorem RefF.grow {rv : Value} {f : Nat → Nat} {w w' : World} {X : Nat → Prop} (h : RefF rv f w X) (hg : Grow w w') : RefF rv f w' X := stable_ref _ _ _ _ (Next.of_grow hg) h
theorem RefF.load {rv : Value} {f : Nat → Nat} {w : World} {X : Nat → Prop} (h : RefF rv f w X) (off : Nat) (ho : off < 18446744073709551616) :
    Calls Try.prog 157 #[rv, .int .u64 (off : Int)] w fun e w' => e = .returned (.int .u64 ((f off : Nat) : Int)) ∧ Grow w w' := by
  obtain ⟨σ, A, c, B, d, rfl, h1, h2, _, h3, h4, _, rfl⟩ := h
  exact rload h1 h2 off ho (by omega) (by omega)

theorem rword_ok (w : World) (c what : Nat) (hc : c < 8) (h8 : what % 8 = 0) (hw : what < 416) :
    Calls Try.prog 97 #[.int .i64 (c : Int), .int .u64 (what : Int)] w fun e w' => e = .returned (.tuple #[.int .u64 ((64 + 416 * c + what : Nat) : Int), .bool true]) ∧ w = w' := by
  have t0 : decide ((c : Int) < 0) = false := decide_eq_false (by omega)
  have t1 : decide ((7 : Int) < c) = false := decide_eq_false (by omega)
  have t2 : ((what : Int) % 8 != 0) = false := by rw [← Bool.not_eq_true, bne_iff_ne]; omega
  have t3 : decide ((416 : Int) ≤ what) = false := decide_eq_false (by omega)
  have e2 : IntKind.u64.wrap (c : Int) = (c : Int) := by rw [IntKind.wrap_u64]; omega
  go_enter Try.func97, Try.ntmps97
  go_wp2
  go_ret2
  exact ⟨by simp, rfl⟩
theorem rword_bad (w : World) (c : Int) (what : Nat) (h : ¬ (0 ≤ c ∧ c < 8 ∧ what % 8 = 0 ∧ what < 416)) :
    Calls Try.prog 97 #[.int .i64 c, .int .u64 (what : Int)] w fun e w' => e = .returned (.tuple #[.int .u64 0, .bool false]) ∧ w = w' := by
  by_cases h0 : c < 0
  · have t0 : decide (c < 0) = true := decide_eq_true h0
    go_enter Try.func97, Try.ntmps97
    go_wp2
    go_ret2
    exact ⟨rfl, rfl⟩
  · have t0 : decide (c < 0) = false := decide_eq_false h0
    by_cases h1 : 7 < c
    · have t1 : decide (7 < c) = true := decide_eq_true h1
      go_enter Try.func97, Try.ntmps97
      go_wp2
      go_ret2
      exact ⟨rfl, rfl⟩
    · have t1 : decide (7 < c) = false := decide_eq_false h1
      by_cases h2 : what % 8 = 0
      · have t2 : ((what : Int) % 8 != 0) = false := by rw [← Bool.not_eq_true, bne_iff_ne]; omega
        have t3 : decide ((416 : Int) ≤ what) = true := decide_eq_true (by omega)
        go_enter Try.func97, Try.ntmps97
        go_wp2
        go_ret2
        exact ⟨rfl, rfl⟩
      · have t2 : ((what : Int) % 8 != 0) = true := by rw [bne_iff_ne]; omega
        go_enter Try.func97, Try.ntmps97
        go_wp2
        go_ret2
        exact ⟨rfl, rfl⟩

theorem rget_any {rv : Value} {f : Nat → Nat} {w : World} {X : Nat → Prop} (h : RefF rv f w X) (c : Int) (what : Nat) (h8 : what % 8 = 0) (hw : what < 416) :
    Calls Try.prog 121 #[rv, .int .i64 c, .int .u64 (what : Int)] w fun e w' => e = .returned (.int .u64 ((getF f c what : Nat) : Int)) ∧ Grow w w' := by
  obtain ⟨A, n, c', B, m, d, rfl⟩ := h.agg
  have hga : Grow w (w.alloc (.cells #[.slice A n c', .slice B m d] 67)) := (Below.refl _ _).alloc (Nat.le_refl _) _
  have h1 := h.grow hga
  unfold getF
  by_cases hc : 0 ≤ c ∧ c < 8
  · rw [if_pos hc]
    obtain ⟨C, rfl⟩ := Int.eq_ofNat_of_zero_le hc.1
    have hw1 := rword_ok (w.alloc (.cells #[.slice A n c', .slice B m d] 67)) C what (by omega) h8 hw
    have hl := h1.load (64 + 416 * C + what) (by omega)
    rw [show ((C : Int)).toNat = C from rfl]
    clear h h1
    generalize f (64 + 416 * C + what) = y at *
    generalize 64 + 416 * C + what = o at *
    go_enter Try.func121, Try.ntmps121
    go_wp2_with fail
    refine hw1.mono ?_
    rintro e w' ⟨rfl, rfl⟩
    go_wp2_with fail
    refine hl.mono ?_
    rintro e w' ⟨rfl, hg⟩
    go_wp2
    go_ret
    exact ⟨rfl, hga.trans hg⟩
  · rw [if_neg hc]
    have hw1 := rword_bad (w.alloc (.cells #[.slice A n c', .slice B m d] 67)) c what (fun hh => hc ⟨hh.1, hh.2.1⟩)
    go_enter Try.func121, Try.ntmps121
    go_wp2_with fail
    refine hw1.mono ?_
    rintro e w' ⟨rfl, rfl⟩
    go_wp2
    go_ret
    exact ⟨rfl, hga⟩

/-- Who has the lock. -/
def hold (f : Nat → Nat) : Int × Bool := if 1 ≤ f 24 ∧ f 24 ≤ 8 then (((f 24 - 1 : Nat) : Int), true) else (0, false)
theorem holder_any {w : World} {v : Value} {f : Nat → Nat} (h : TxAny w v f) :
    Calls Try.prog 75 #[v] w fun e w' => e = .returned (.tuple #[.int .i64 (hold f).1, .bool (hold f).2]) ∧ Grow w w' := by
  unfold hold
  split
  · next hh => exact holder_ok h hh.1 hh.2
  · next hh => exact holder_bad h hh
theorem rholder {rv : Value} {f : Nat → Nat} {w : World} {X : Nat → Prop} (h : RefF rv f w X) :
    Calls Try.prog 76 #[rv] w fun e w' => e = .returned (.tuple #[.int .i64 (hold f).1, .bool (hold f).2]) ∧ Grow w w' := by
  obtain ⟨A, n, c', B, m, d, rfl⟩ := h.agg
  have hga : Grow w (w.alloc (.cells #[.slice A n c', .slice B m d] 67)) := (Below.refl _ _).alloc (Nat.le_refl _) _
  have hl := (h.grow hga).load 24 (by omega)
  unfold hold
  generalize f 24 = x at *
  clear h
  by_cases hx : x < 1
  · have t0 : decide ((x : Int) < 1) = true := decide_eq_true (by omega)
    rw [if_neg (by omega)]
    go_enter Try.func76, Try.ntmps76
    go_wp2_with fail
    refine hl.mono ?_
    rintro e w' ⟨rfl, hg⟩
    have hg := hga.trans hg
    clear hl hga
    go_wp2
    go_ret2
    exact ⟨rfl, hg⟩
  · have t0 : decide ((x : Int) < 1) = false := decide_eq_false (by omega)
    by_cases h8 : x ≤ 8
    · have t1 : decide ((8 : Int) < x) = false := decide_eq_false (by omega)
      have e2 : IntKind.i64.wrap (x : Int) = (x : Int) := by rw [IntKind.wrap_i64]; omega
      rw [if_pos (by omega)]
      go_enter Try.func76, Try.ntmps76
      go_wp2_with fail
      refine hl.mono ?_
      rintro e w' ⟨rfl, hg⟩
      have hg := hga.trans hg
      clear hl hga
      go_wp2
      go_ret2
      exact ⟨by simp; omega, hg⟩
    · have t1 : decide ((8 : Int) < x) = true := decide_eq_true (by omega)
      rw [if_neg (by omega)]
      go_enter Try.func76, Try.ntmps76
      go_wp2_with fail
      refine hl.mono ?_
      rintro e w' ⟨rfl, hg⟩
      have hg := hga.trans hg
      clear hl hga
      go_wp2
      go_ret2
      exact ⟨rfl, hg⟩
theorem rtake_ok (w : World) (c : Nat) (hc : c < 8) : Calls Try.prog 78 #[.int .i64 (c : Int)] w fun e w' => e = .returned (.tuple #[.agg #[.int .u64 24, .int .u64 ((c + 1 : Nat) : Int)], .int .i64 0]) ∧ Grow w w' := by
  have t0 : decide ((c : Int) < 0) = false := decide_eq_false (by omega)
  have t1 : decide ((7 : Int) < c) = false := decide_eq_false (by omega)
  have e2 : IntKind.u64.wrap (c : Int) = (c : Int) := by rw [IntKind.wrap_u64]; omega
  go_enter Try.func78, Try.ntmps78
  go_wp2
  exact results_cell_tmp73 (g := w.heap.size) rfl rfl rfl (World.alloc_heap_new w _) rfl ⟨rfl, (Below.refl _ _).alloc (Nat.le_refl _) _⟩
theorem rtake_bad (w : World) (c : Int) (hc : ¬ (0 ≤ c ∧ c < 8)) : Calls Try.prog 78 #[.int .i64 c] w fun e w' => e = .returned (.tuple #[.agg #[.int .u64 0, .int .u64 0], .int .i64 1]) ∧ Grow w w' := by
  by_cases h0 : c < 0
  · have t0 : decide (c < 0) = true := decide_eq_true h0
    go_enter Try.func78, Try.ntmps78
    go_wp2
    exact results_cell_tmp73 (g := w.heap.size) rfl rfl rfl (World.alloc_heap_new w _) rfl ⟨rfl, (Below.refl _ _).alloc (Nat.le_refl _) _⟩
  · have t0 : decide (c < 0) = false := decide_eq_false h0
    have t1 : decide (7 < c) = true := decide_eq_true (by omega)
    go_enter Try.func78, Try.ntmps78
    go_wp2
    exact results_cell_tmp73 (g := w.heap.size) rfl rfl rfl (World.alloc_heap_new w _) rfl ⟨rfl, (Below.refl _ _).alloc (Nat.le_refl _) _⟩
/-- A client's taking, told alike. -/
theorem takes (c : Int) : ∃ a b k : Int, (∀ w, Calls Try.prog 77 #[.int .i64 c] w fun e w' => e = .returned (.tuple #[.agg #[.int .u64 a, .int .u64 b], .int .i64 k]) ∧ Grow w w') ∧
    ∀ w, Calls Try.prog 78 #[.int .i64 c] w fun e w' => e = .returned (.tuple #[.agg #[.int .u64 a, .int .u64 b], .int .i64 k]) ∧ Grow w w' := by
  by_cases hc : 0 ≤ c ∧ c < 8
  · obtain ⟨C, rfl⟩ := Int.eq_ofNat_of_zero_le hc.1
    exact ⟨24, ((C + 1 : Nat) : Int), 0, fun w => take_ok w C (by omega), fun w => rtake_ok w C (by omega)⟩
  · exact ⟨0, 0, 1, fun w => take_bad w c hc, fun w => rtake_bad w c hc⟩

set_option maxRecDepth 100000 in
theorem rmay {rv : Value} {f : Nat → Nat} {w : World} {X : Nat → Prop} (h : RefF rv f w X) (c : Int) :
    Calls Try.prog 80 #[rv, .int .i64 c] w fun e w' => e = .returned (.bool (mayB f c)) ∧ Grow w w' := by
  obtain ⟨A, n, c', B, m, d, rfl⟩ := h.agg
  have hga : Grow w (w.alloc (.cells #[.slice A n c', .slice B m d] 67)) := (Below.refl _ _).alloc (Nat.le_refl _) _
  have hB := World.alloc_heap_new w (.cells #[.slice A n c', .slice B m d] 67)
  have h1 := h.grow hga
  clear h
  by_cases h0 : c < 0
  · have t0 : decide (c < 0) = true := decide_eq_true h0
    rw [show mayB f c = false from by unfold mayB; rw [decide_eq_false (by omega)]; rfl]
    go_enter Try.func80, Try.ntmps80
    go_wp2
    go_ret
    exact ⟨rfl, hga⟩
  · have t0 : decide (c < 0) = false := decide_eq_false h0
    by_cases h7 : 7 < c
    · have t1 : decide (7 < c) = true := decide_eq_true h7
      rw [show mayB f c = false from by unfold mayB; rw [decide_eq_false (by omega)]; rfl]
      go_enter Try.func80, Try.ntmps80
      go_wp2
      go_ret
      exact ⟨rfl, hga⟩
    · have t1 : decide (7 < c) = false := decide_eq_false h7
      have hh := rholder h1
      unfold hold at hh
      unfold mayB
      rw [decide_eq_true (show 0 ≤ c ∧ c < 8 by omega), Bool.true_and]
      by_cases hf : 1 ≤ f 24 ∧ f 24 ≤ 8
      · rw [if_pos hf] at hh
        rw [decide_eq_true hf, Bool.not_true, Bool.false_or]
        have hgt : ∀ w2, Grow (w.alloc (.cells #[.slice A n c', .slice B m d] 67)) w2 → _ := fun w2 hg2 => rget_any (h1.grow hg2) ((f 24 - 1 : Nat) : Int) 0 rfl (by omega)
        rw [show getF f ((f 24 - 1 : Nat) : Int) 0 = f (64 + 416 * (f 24 - 1)) from by unfold getF; rw [if_pos (by omega)]; simp] at hgt
        generalize f (64 + 416 * (f 24 - 1)) = y at *
        generalize f 24 - 1 = H at *
        by_cases hne : (H : Int) = c
        · subst hne
          clear hgt h1
          go_enter Try.func80, Try.ntmps80
          go_wp2_with fail
          refine hh.mono ?_
          rintro e w2 ⟨rfl, hg2⟩
          have hg := hga.trans hg2
          clear hh hB hga hg2
          have t2 : ((H : Int) != H) = false := by simp
          go_wp2
          go_ret
          exact ⟨by simp, hg⟩
        · have t2 : ((H : Int) != c) = true := by rw [bne_iff_ne]; exact hne
          clear h1
          rw [decide_eq_true (p := (H : Int) ≠ c) hne, Bool.true_and]
          by_cases hy : y = 2
          · subst hy
            rw [decide_eq_true rfl]
            go_enter Try.func80, Try.ntmps80
            go_wp2_with fail
            generalize w.alloc (.cells #[.slice A n c', .slice B m d] 67) = w1 at *
            refine hh.mono ?_
            rintro e w2 ⟨rfl, hg2⟩
            have hB2 := hg2.heap hB
            have hg := hga.trans hg2
            have a0 : w2.cell? ⟨w.heap.size, 0, none⟩ = some (.slice A n c') := by rw [cell_of_heap hB2]; rfl
            have a1 : w2.cell? ⟨w.heap.size, 1, none⟩ = some (.slice B m d) := by rw [cell_of_heap hB2]; rfl
            clear hh hB hga hB2
            go_wp2_with fail
            refine (hgt w2 hg2).mono ?_
            rintro e w3 ⟨rfl, hg3⟩
            have hg := hg.trans hg3
            clear hgt hg2 hg3 a0 a1
            go_wp2
            go_ret
            exact ⟨rfl, hg⟩
          · have t3 : ((y : Int) == 2) = false := by rw [beq_eq_false_iff_ne]; omega
            rw [decide_eq_false hy]
            go_enter Try.func80, Try.ntmps80
            go_wp2_with fail
            generalize w.alloc (.cells #[.slice A n c', .slice B m d] 67) = w1 at *
            refine hh.mono ?_
            rintro e w2 ⟨rfl, hg2⟩
            have hB2 := hg2.heap hB
            have hg := hga.trans hg2
            have a0 : w2.cell? ⟨w.heap.size, 0, none⟩ = some (.slice A n c') := by rw [cell_of_heap hB2]; rfl
            have a1 : w2.cell? ⟨w.heap.size, 1, none⟩ = some (.slice B m d) := by rw [cell_of_heap hB2]; rfl
            clear hh hB hga hB2
            go_wp2_with fail
            refine (hgt w2 hg2).mono ?_
            rintro e w3 ⟨rfl, hg3⟩
            have hg := hg.trans hg3
            clear hgt hg2 hg3 a0 a1
            go_wp2
            go_ret
            exact ⟨rfl, hg⟩
      · rw [if_neg hf] at hh
        rw [decide_eq_false hf, Bool.not_false, Bool.true_or]
        clear h1 hf
        go_enter Try.func80, Try.ntmps80
        go_wp2_with fail
        generalize w.alloc (.cells #[.slice A n c', .slice B m d] 67) = w1 at *
        refine hh.mono ?_
        rintro e w2 ⟨rfl, hg2⟩
        have hg := hga.trans hg2
        clear hh hB hga hg2
        go_wp2
        go_ret
        exact ⟨rfl, hg⟩
end Go.Proofs.Ck
