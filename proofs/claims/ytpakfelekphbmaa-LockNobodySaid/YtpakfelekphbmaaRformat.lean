/- A segment's head: the document's Format, of 4800 bytes. -/
import Derived.Test.YtpakfelekphbmaaFormat
import Derived.Test.YtpakfelekphbmaaHash
namespace Go.Proofs.Ck
open Go Go.RowKit

theorem rsum_call (size : Nat) (hs : size < 18446744073709551616) (w : World) : Calls Try.prog 187 #[.int .u64 (size : Int)] w fun e w' => e = .returned (.int .u64 ((ckSum size : Nat) : Int)) ∧ w = w' := by
  have f : bits .xor .u64 7161130718081542961 (size : Int) = ((7161130718081542961 ^^^ size : Nat) : Int) := bits_xor_u64_nat 7161130718081542961 size (by omega) hs
  have m := rmix (7161130718081542961 ^^^ size) w
  unfold ckSum
  generalize (7161130718081542961 ^^^ size) * 11400714819323198485 % 18446744073709551616 = r at *
  generalize 7161130718081542961 ^^^ size = x at *
  go_enter Try.func187, Try.ntmps187
  go_wp2_with fail
  refine m.mono ?_
  rintro e w' ⟨rfl, rfl⟩
  go_wp2
  go_ret
  exact ⟨rfl, rfl⟩
theorem rfits_ok (size all : Nat) (h : fits size all) (w : World) : Calls Try.prog 186 #[.int .u64 (size : Int), .int .u64 (all : Int)] w fun e w' => e = .returned (.bool true) ∧ w = w' := by
  obtain ⟨h1, h2, h3⟩ := h
  have t1 : ((size : Int) % 16 == 0) = true := by rw [beq_iff_eq]; omega
  have t2 : decide ((3824 : Int) ≤ size) = true := decide_eq_true (by omega)
  have t3 : decide ((size : Int) ≤ all) = true := decide_eq_true (by omega)
  go_enter Try.func186, Try.ntmps186
  go_wp2
  go_ret
  exact ⟨rfl, rfl⟩

theorem cells_set {g : Nat} {w : World} {W : List Nat} (h : w.heap[g]? = some (.cells (u64s W).toArray 22 (0, 0))) (i x : Nat) :
    (w.setCell ⟨g, i, none⟩ (.int .u64 (x : Int))).heap[g]? = some (.cells (u64s (W.set i x)).toArray 22 (0, 0)) := by
  rw [heap_setCell_row h]
  congr 2
  rw [List.setIfInBounds_toArray]
  congr 1
  unfold u64s
  rw [List.map_set]
theorem cells_get {g : Nat} {w : World} {W : List Nat} (h : w.heap[g]? = some (.cells (u64s W).toArray 22 (0, 0))) {i : Nat} (hi : i < W.length) : ∃ x : Nat, w.cell? ⟨g, i, none⟩ = some (.int .u64 (x : Int)) := by
  refine ⟨W.getD i 0, ?_⟩
  rw [cell_of_heap h]
  simp [u64s, List.getD_eq_getElem?_getD, hi]

theorem own_array {w : World} {base g n : Nat} {xs : List Value} (h : w.ownsRow base 22 1 (.slice (some ⟨g, 0, none⟩) n n) n xs) : base ≤ g ∧ w.heap[g]? = some (.cells xs.toArray 22 (0, 0)) := by
  obtain ⟨cur, hge, hh, _, _, hz, hcur⟩ := own_some h
  have hl := h.1
  refine ⟨hge, ?_⟩
  rw [hh]
  congr 2
  apply Array.ext_getElem?
  intro i
  by_cases hi : i < xs.length
  · rw [hcur i _ (List.getElem?_eq_getElem hi)]
    simp [hi]
  · rw [Array.getElem?_eq_none (by omega), Array.getElem?_eq_none (by simp; omega)]

set_option maxRecDepth 100000 in
set_option maxHeartbeats 2000000 in
theorem rformat_ok (w : World) (size : Nat) (hf : fits size 4800) :
    Calls Try.prog 154 #[.int .u64 4800, .int .u64 (size : Int)] w fun e w' => ∃ g, e = .returned (.tuple #[.slice (some ⟨g, 0, none⟩) 600 600, .int .i64 0]) ∧ w.heap.size ≤ g ∧ w'.heap[g]? = some (.cells (u64s (fmtW 600 size)).toArray 22 (0, 0)) ∧ Grow w w' := by
  have hfc := rfits_ok size 4800 hf
  obtain ⟨hf1, hf2, hf3⟩ := hf
  go_enter Try.func154, Try.ntmps154
  go_wp2_with fail
  refine (rnew_ok 4800 w (by omega) (by omega) (by omega)).mono ?_
  rintro e w1 ⟨g, ⟨rfl, hown⟩, hg⟩
  have hx := own_array hown
  clear hown
  obtain ⟨hge, hh⟩ := hx
  rw [show (4800 / 8 : Nat) = 600 from rfl] at hh ⊢
  have hl : (List.replicate 600 0).length = 600 := List.length_replicate ..
  generalize hW0 : List.replicate 600 0 = W0 at hh hl
  have HW := Lib.hid hW0
  clear hW0
  go_wp2_with fail
  refine (hfc w1).mono ?_
  rintro e w' ⟨rfl, rfl⟩
  clear hfc
  obtain ⟨x0, h0⟩ := cells_get hh (i := 0) (by omega)
  obtain ⟨x1, h1⟩ := cells_get hh (i := 1) (by omega)
  obtain ⟨x2, h2⟩ := cells_get hh (i := 2) (by omega)
  obtain ⟨x4, h4⟩ := cells_get hh (i := 4) (by omega)
  have f0 := frozen_of_heap hh 0
  have f1 := frozen_of_heap hh 1
  have f2 := frozen_of_heap hh 2
  have f4 := frozen_of_heap hh 4
  have HH := Lib.hid (cells_set (cells_set (cells_set (cells_set hh 0 7161130718081542961) 1 1) 2 size) 4 3776)
  have HG := Lib.hid ((((hg.setCell (p := ⟨g, 0, none⟩) hge (.int .u64 ((7161130718081542961 : Nat) : Int))).setCell (p := ⟨g, 1, none⟩) hge (.int .u64 ((1 : Nat) : Int))).setCell (p := ⟨g, 2, none⟩) hge (.int .u64 (size : Int))).setCell (p := ⟨g, 4, none⟩) hge (.int .u64 ((3776 : Nat) : Int)))
  go_wp2_with fail
  generalize hw2 : ((((w1.setCell ⟨g, 0, none⟩ (.int .u64 7161130718081542961)).setCell ⟨g, 1, none⟩ (.int .u64 1)).setCell ⟨g, 2, none⟩ (.int .u64 (size : Int))).setCell ⟨g, 4, none⟩ (.int .u64 3776)) = w2
  have hh2 : w2.heap[g]? = some (.cells (u64s ((((W0.set 0 7161130718081542961).set 1 1).set 2 size).set 4 3776)).toArray 22 (0, 0)) := by rw [← hw2]; exact HH.out
  have hg2 : Grow w w2 := by rw [← hw2]; exact HG.out
  clear hw2 HH HG h0 h1 h2 h4 f0 f1 f2 f4 hh hg
  have hl2 : ((((W0.set 0 7161130718081542961).set 1 1).set 2 size).set 4 3776).length = 600 := by simp only [List.length_set]; exact hl
  generalize hW1 : (((W0.set 0 7161130718081542961).set 1 1).set 2 size).set 4 3776 = W1 at hh2 hl2
  have HW1 := Lib.hid hW1
  clear hW1
  refine (rsum_call size (by omega) w2).mono ?_
  rintro e w' ⟨rfl, rfl⟩
  have hq : size / 8 - 1 < 600 := by omega
  have hq5 : 5 < size / 8 - 1 := by omega
  have hq472 : 472 < size / 8 - 1 := by omega
  have eq : (size : Int) / 8 - 1 = ((size / 8 - 1 : Nat) : Int) := by omega
  have ez : (size : Int) - 3776 = ((size - 3776 : Nat) : Int) := by omega
  obtain ⟨x5, h5⟩ := cells_get hh2 (i := 5) (by omega)
  obtain ⟨x6, h6⟩ := cells_get hh2 (i := 472) (by omega)
  obtain ⟨x7, h7⟩ := cells_get hh2 (i := size / 8 - 1) (by omega)
  have f5 := frozen_of_heap hh2 5
  have f6 := frozen_of_heap hh2 472
  have f7 := frozen_of_heap hh2 (size / 8 - 1)
  have HH := Lib.hid (cells_set (cells_set (cells_set hh2 5 (ckSum size)) 472 (size - 3776)) (size / 8 - 1) (size - 3776))
  have HG := Lib.hid (((hg2.setCell (p := ⟨g, 5, none⟩) hge (.int .u64 ((ckSum size : Nat) : Int))).setCell (p := ⟨g, 472, none⟩) hge (.int .u64 ((size - 3776 : Nat) : Int))).setCell (p := ⟨g, size / 8 - 1, none⟩) hge (.int .u64 ((size - 3776 : Nat) : Int)))
  have HF : Hid (((W1.set 5 (ckSum size)).set 472 (size - 3776)).set (size / 8 - 1) (size - 3776) = fmtW 600 size) := by
    unfold fmtW
    rw [HW.out, HW1.out]
    exact Lib.hid rfl
  clear hh2 hg2
  generalize ckSum size = S at *
  generalize size / 8 - 1 = q at *
  have hix : (0 : Int) ≤ (q : Int) ∧ (q : Int) < 600 := by omega
  go_wp2
  go_ret2
  have hh := HH.out
  rw [HF.out] at hh
  have hg := HG.out
  exact ⟨g, rfl, hge, hh, hg⟩
end Go.Proofs.Ck
