/- The ledger's units, laid into the document: the walk. -/
import Derived.Test.YtpakfelekphbmaaGr5
import Derived.Test.YtpakfelekphbmaaFineS
import Derived.Test.YtpakfelekphbmaaGDirR
import Derived.Deep.RegionHeld3
namespace Go.Proofs.Ck
open Go Go.RowKit

set_option maxRecDepth 100000 in
set_option maxHeartbeats 4000000 in
theorem rwriteS {rv : Value} {σ : St} {w : World} {X : Nat → Prop} (h : RefS rv σ w X) (hX : ∀ b, X b → b < w.heap.size) (hfS : FineS σ) (off s o E : Nat) (u : Bool) (hE : σ.load 16 = E) (hE2 : E < 18446744073709551616) (hoff : off < 18446744073709551616) (hs : s < 18446744073709551616) (ho : o < 9223372036854775808) :
    Calls Try.prog 192 #[rv, .int .u64 (off : Int), .agg #[.int .u64 (s : Int), .bool u, .int .i64 (o : Int)]] w (RDid w X (writeS σ E off s u o) (writeE E off s u o)) := by
  obtain ⟨A, n, c', B, m, d, rfl⟩ := h.agg
  have hf := hfS.fine
  obtain ⟨wa, hwa⟩ : ∃ wa, ((w.alloc (.cells #[.slice A n c', .slice B m d] 67)).alloc (.cells #[.int .u64 (s : Int), .bool u, .int .i64 (o : Int)] 211)).alloc (.cells #[.slice none 0 0, .slice none 0 0] 67) = wa := ⟨_, rfl⟩
  have hga : Grow w wa := by rw [← hwa]; exact (((Below.refl _ _).alloc (Nat.le_refl _) _).alloc (by simp) _).alloc (by simp; omega) _
  have hB : wa.heap[w.heap.size]? = some (.cells #[.slice A n c', .slice B m d] 67 (0, 0)) := by
    rw [← hwa]; exact (Below.heap_alloc _ _ _ (by simp; omega)).trans ((Below.heap_alloc _ _ _ (by simp)).trans (World.alloc_heap_new w _))
  have hC : wa.heap[w.heap.size + 1]? = some (.cells #[.int .u64 (s : Int), .bool u, .int .i64 (o : Int)] 211 (0, 0)) := by
    have := World.alloc_heap_new (w.alloc (.cells #[.slice A n c', .slice B m d] 67)) (.cells #[.int .u64 (s : Int), .bool u, .int .i64 (o : Int)] 211)
    rw [World.size_alloc] at this
    rw [← hwa]; exact (Below.heap_alloc _ _ _ (by simp)).trans this
  have hT : wa.heap[w.heap.size + 1 + 1]? = some (.cells #[.slice none 0 0, .slice none 0 0] 67 (0, 0)) := by
    have := World.alloc_heap_new ((w.alloc (.cells #[.slice A n c', .slice B m d] 67)).alloc (.cells #[.int .u64 (s : Int), .bool u, .int .i64 (o : Int)] 211)) (.cells #[.slice none 0 0, .slice none 0 0] 67)
    rw [World.size_alloc, World.size_alloc] at this
    rw [← hwa]; exact this
  have h1 : RefS (.agg #[.slice A n c', .slice B m d]) σ wa (fun b => X b ∨ b = w.heap.size + 1 + 1) := stable_refS _ _ _ _ ⟨Only.of_below hga, fun b hb => by
    rcases hb with hb | hb
    · exact .inl hb
    · exact .inr (by omega)⟩ h
  have hX1 : ∀ b, (X b ∨ b = w.heap.size + 1 + 1) → b < wa.heap.size := fun b hb => by
    rcases hb with hb | hb
    · exact Nat.lt_of_lt_of_le (hX b hb) hga.size
    · rw [hb]; exact lt_of_heap hT
  have c0 : wa.cell? ⟨w.heap.size + 1, 0, none⟩ = some (.int .u64 (s : Int)) := by rw [cell_of_heap hC]; rfl
  have c1 : wa.cell? ⟨w.heap.size + 1, 1, none⟩ = some (.bool u) := by rw [cell_of_heap hC]; rfl
  have c2 : wa.cell? ⟨w.heap.size + 1, 2, none⟩ = some (.int .i64 (o : Int)) := by rw [cell_of_heap hC]; rfl
  have hm := rmayG wa s o u hs ho
  by_cases hl : layB E off s u o = true
  · obtain ⟨hmm, hii⟩ := (layB_iff _ _ _ _ _).1 hl
    have hy : mayG s u o = true := (mayG_iff _ _ _).2 hmm
    have hn : inG E off s = true := (inG_iff _ _ _).2 hii
    rw [writeS, if_pos hl, writeE, if_pos hl]
    rw [hy] at hm
    have hin := fun w2 (hg2 : Grow wa w2) => rinG ((h1.grow hg2).ref hf) off s E hE hE2 hoff
    rw [hn] at hin
    have hpk := fun w => rpackG w s o u hs ho
    have hP := packG_lt s u o
    generalize packG s u o = P at *
    have e1 : IntKind.u64.wrap ((off : Int) + (s : Int)) = ((off + s : Nat) : Int) := by rw [IntKind.wrap_u64]; omega
    have e2 : IntKind.u64.wrap (((off + s : Nat) : Int) - 8) = ((off + s - 8 : Nat) : Int) := by rw [IntKind.wrap_u64]; omega
    have ho8 : off + s - 8 < 18446744073709551616 := by omega
    generalize hos : off + s = os at *
    generalize os - 8 = os8 at *
    clear hl hy hn hmm hii hE hos
    go_enter Try.func192, Try.ntmps192
    go_wp2_with fail
    refine hm.mono ?_
    rintro e w2 ⟨rfl, hg2⟩
    have hC2 := hg2.heap hC
    have hB2 := hg2.heap hB
    clear c0 c1 c2 hm
    have c0 : w2.cell? ⟨w.heap.size + 1, 0, none⟩ = some (.int .u64 (s : Int)) := by rw [cell_of_heap hC2]; rfl
    have b0 : w2.cell? ⟨w.heap.size, 0, none⟩ = some (.slice A n c') := by rw [cell_of_heap hB2]; rfl
    have b1 : w2.cell? ⟨w.heap.size, 1, none⟩ = some (.slice B m d) := by rw [cell_of_heap hB2]; rfl
    go_wp2_with fail
    refine (hin w2 hg2).mono ?_
    rintro e w3 ⟨rfl, hg3⟩
    have hgF := hg2.trans hg3
    clear hin hg2 hg3 c0 b0 b1 hC2 hB2
    have b0 : w3.cell? ⟨w.heap.size, 0, none⟩ = some (.slice A n c') := by rw [cell_of_heap (hgF.heap hB)]; rfl
    have b1 : w3.cell? ⟨w.heap.size, 1, none⟩ = some (.slice B m d) := by rw [cell_of_heap (hgF.heap hB)]; rfl
    have c0 : w3.cell? ⟨w.heap.size + 1, 0, none⟩ = some (.int .u64 (s : Int)) := by rw [cell_of_heap (hgF.heap hC)]; rfl
    have c1 : w3.cell? ⟨w.heap.size + 1, 1, none⟩ = some (.bool u) := by rw [cell_of_heap (hgF.heap hC)]; rfl
    have c2 : w3.cell? ⟨w.heap.size + 1, 2, none⟩ = some (.int .i64 (o : Int)) := by rw [cell_of_heap (hgF.heap hC)]; rfl
    have kp : ∀ w', Grow wa w' → w'.cell? ⟨w.heap.size, 0, none⟩ = some (.slice A n c') ∧ w'.cell? ⟨w.heap.size, 1, none⟩ = some (.slice B m d) ∧ w'.cell? ⟨w.heap.size + 1, 0, none⟩ = some (.int .u64 (s : Int)) ∧ w'.cell? ⟨w.heap.size + 1, 1, none⟩ = some (.bool u) ∧ w'.cell? ⟨w.heap.size + 1, 2, none⟩ = some (.int .i64 (o : Int)) := fun w' hg' =>
      ⟨(cell_of_heap (hg'.heap hB) 0).trans rfl, (cell_of_heap (hg'.heap hB) 1).trans rfl, (cell_of_heap (hg'.heap hC) 0).trans rfl, (cell_of_heap (hg'.heap hC) 1).trans rfl, (cell_of_heap (hg'.heap hC) 2).trans rfl⟩
    go_wp2
    refine region_plain (fun w' => w'.cell? ⟨w.heap.size, 0, none⟩ = some (.slice A n c') ∧ w'.cell? ⟨w.heap.size, 1, none⟩ = some (.slice B m d) ∧ w'.cell? ⟨w.heap.size + 1, 0, none⟩ = some (.int .u64 (s : Int)) ∧ w'.cell? ⟨w.heap.size + 1, 1, none⟩ = some (.bool u) ∧ w'.cell? ⟨w.heap.size + 1, 2, none⟩ = some (.int .i64 (o : Int))) (by kernel_rfl) ⟨b0, b1, c0, c1, c2⟩ (fun hHeld => ?_)
    refine wpAnyH_take (i := 0) (v := ?_) rfl (by kernel_rfl) (by kernel_rfl) (by kernel_rfl) (fun _ _ _ h => h) (Or.inl ⟨by first | kernel_rfl | rfl, ?_⟩) (by assumption) ?_
    rotate_left
    · intro w hSw; (try dsimp only at hSw); (try go_split_ands); go_simp; first | done | with_reducible rfl
    try simp only [Act.put, List.getElem_toArray, List.getElem_cons_zero, List.setIfInBounds_toArray, List.set_cons_zero, List.set_cons_succ]
    refine wpAnyH_take (i := 1) (v := ?_) rfl (by kernel_rfl) (by kernel_rfl) (by kernel_rfl) (fun _ _ _ h => h) (Or.inl ⟨by first | kernel_rfl | rfl, ?_⟩) (by assumption) ?_
    rotate_left
    · intro w hSw; (try dsimp only at hSw); (try go_split_ands); go_simp; first | done | with_reducible rfl
    try simp only [Act.put, List.getElem_toArray, List.getElem_cons_succ, List.getElem_cons_zero, List.setIfInBounds_toArray, List.set_cons_zero, List.set_cons_succ]
    refine wpAnyH_take (i := 2) (v := ?_) rfl (by kernel_rfl) (by kernel_rfl) (by kernel_rfl) (fun _ _ _ h => h) (Or.inl ⟨by first | kernel_rfl | rfl, ?_⟩) (by assumption) ?_
    rotate_left
    · intro w hSw; (try dsimp only at hSw); (try go_split_ands); go_simp; first | done | with_reducible rfl
    try simp only [Act.put, List.getElem_toArray, List.getElem_cons_succ, List.getElem_cons_zero, List.setIfInBounds_toArray, List.set_cons_zero, List.set_cons_succ]
    refine wpAnyH_take (i := 5) (v := ?_) rfl (by kernel_rfl) (by kernel_rfl) (by kernel_rfl) (fun _ _ _ h => h) (Or.inl ⟨by first | kernel_rfl | rfl, ?_⟩) (by assumption) ?_
    rotate_left
    · intro w hSw; (try dsimp only at hSw); (try go_split_ands); go_simp; first | done | with_reducible rfl
    try simp only [Act.put, List.getElem_toArray, List.getElem_cons_succ, List.getElem_cons_zero, List.setIfInBounds_toArray, List.set_cons_zero, List.set_cons_succ]
    refine wpAnyH_take (i := 6) (v := ?_) rfl (by kernel_rfl) (by kernel_rfl) (by kernel_rfl) (fun _ _ _ h => h) (Or.inl ⟨by first | kernel_rfl | rfl, ?_⟩) (by assumption) ?_
    rotate_left
    · intro w hSw; (try dsimp only at hSw); (try go_split_ands); go_simp; first | done | with_reducible rfl
    try simp only [Act.put, List.getElem_toArray, List.getElem_cons_succ, List.getElem_cons_zero, List.setIfInBounds_toArray, List.set_cons_zero, List.set_cons_succ]
    refine wpAnyH_take (i := 7) (v := ?_) rfl (by kernel_rfl) (by kernel_rfl) (by kernel_rfl) (fun _ _ _ h => h) (Or.inl ⟨by first | kernel_rfl | rfl, ?_⟩) (by assumption) ?_
    rotate_left
    · intro w hSw; (try dsimp only at hSw); (try go_split_ands); go_simp; first | done | with_reducible rfl
    try simp only [Act.put, List.getElem_toArray, List.getElem_cons_succ, List.getElem_cons_zero, List.setIfInBounds_toArray, List.set_cons_zero, List.set_cons_succ]
    refine wpAnyH_take (i := 8) (v := ?_) rfl (by kernel_rfl) (by kernel_rfl) (by kernel_rfl) (fun _ _ _ h => h) (Or.inl ⟨by first | kernel_rfl | rfl, ?_⟩) (by assumption) ?_
    rotate_left
    · intro w hSw; (try dsimp only at hSw); (try go_split_ands); go_simp; first | done | with_reducible rfl
    try simp only [Act.put, List.getElem_toArray, List.getElem_cons_succ, List.getElem_cons_zero, List.setIfInBounds_toArray, List.set_cons_zero, List.set_cons_succ]
    refine wpAnyH_take (i := 9) (v := ?_) rfl (by kernel_rfl) (by kernel_rfl) (by kernel_rfl) (fun _ _ _ h => h) (Or.inl ⟨by first | kernel_rfl | rfl, ?_⟩) (by assumption) ?_
    rotate_left
    · intro w hSw; (try dsimp only at hSw); (try go_split_ands); go_simp; first | done | with_reducible rfl
    try simp only [Act.put, List.getElem_toArray, List.getElem_cons_succ, List.getElem_cons_zero, List.setIfInBounds_toArray, List.set_cons_zero, List.set_cons_succ]
    refine wpAnyH_take (i := 10) (v := ?_) rfl (by kernel_rfl) (by kernel_rfl) (by kernel_rfl) (fun _ _ _ h => h) (Or.inl ⟨by first | kernel_rfl | rfl, ?_⟩) (by assumption) ?_
    rotate_left
    · intro w hSw; (try dsimp only at hSw); (try go_split_ands); go_simp; first | done | with_reducible rfl
    try simp only [Act.put, List.getElem_toArray, List.getElem_cons_succ, List.getElem_cons_zero, List.setIfInBounds_toArray, List.set_cons_zero, List.set_cons_succ]
    refine wpAnyH_ready (rs := [3]) (by kernel_rfl) (by simp) ?_
    refine AllReadyH.cons rfl (fun K hK => ?_) AllReadyH.nil
    go_simp
    go_at_call 204
    refine Calls.mono (hpk _) ?_
    rintro e w4 ⟨rfl, hg4⟩
    have hgz : Grow wa w4 := Grow.trans (b := w3.drew) (Below.drew hgF) hg4
    go_wp2_with fail
    refine hK.out _ _ ?_ (fun hHeld => ?_)
    · exact kp _ hgz
    clear hK K
    try simp only [Act.put, List.getElem_toArray, List.getElem_cons_succ, List.getElem_cons_zero, List.setIfInBounds_toArray, List.set_cons_zero, List.set_cons_succ]
    refine wpAnyH_ready (rs := [4]) (by kernel_rfl) (by simp) ?_
    refine AllReadyH.cons rfl (fun K hK => ?_) AllReadyH.nil
    go_simp
    go_at_call 156
    refine Calls.mono (rstoreS (h1.grow hgz) (fun b hb => Nat.lt_of_lt_of_le (hX1 b hb) hgz.size) hf off P hoff) ?_
    rintro e w5 ⟨rv5, rfl, hR5, hg5⟩
    obtain ⟨A5, n5, c5, B5, m5, d5, rfl⟩ := hR5.agg
    replace hgz := hgz.trans hg5
    clear hg4 hg5
    go_wp2_with fail
    refine hK.out _ _ ?_ (fun hHeld => ?_)
    · exact kp _ hgz
    clear hK K
    try simp only [Act.put, List.getElem_toArray, List.getElem_cons_succ, List.getElem_cons_zero, List.setIfInBounds_toArray, List.set_cons_zero, List.set_cons_succ]
    refine wpAnyH_ready (rs := [11]) (by kernel_rfl) (by simp) ?_
    refine AllReadyH.cons rfl (fun K hK => ?_) AllReadyH.nil
    go_simp
    go_at_call 204
    refine Calls.mono (hpk _) ?_
    rintro e w6 ⟨rfl, hg6⟩
    replace hR5 := hR5.grow hg6
    replace hgz := hgz.trans hg6
    clear hg6
    go_wp2_with fail
    refine hK.out _ _ ?_ (fun hHeld => ?_)
    · exact kp _ hgz
    clear hK K
    try simp only [Act.put, List.getElem_toArray, List.getElem_cons_succ, List.getElem_cons_zero, List.setIfInBounds_toArray, List.set_cons_zero, List.set_cons_succ]
    refine wpAnyH_ready (rs := [12]) (by kernel_rfl) (by simp) ?_
    refine AllReadyH.cons rfl (fun K hK => ?_) AllReadyH.nil
    go_simp
    go_at_call 156
    refine Calls.mono (rstoreS hR5 (fun b hb => Nat.lt_of_lt_of_le (hX1 b hb) hgz.size) (hfS.store off P).fine os8 P ho8) ?_
    rintro e w7 ⟨rv7, rfl, hR7, hg7⟩
    obtain ⟨A7, n7, c7, B7, m7, d7, rfl⟩ := hR7.agg
    replace hgz := hgz.trans hg7
    clear hg7 hR5
    go_wp2_with fail
    refine hK.out _ _ ?_ (fun hHeld => ?_)
    · exact kp _ hgz
    clear hK K
    try simp only [Act.put, List.getElem_toArray, List.getElem_cons_succ, List.getElem_cons_zero, List.setIfInBounds_toArray, List.set_cons_zero, List.set_cons_succ]
    have hB7 := hgz.heap hB
    have hC7 := hgz.heap hC
    have hT7 := hgz.heap hT
    have t0 : w7.cell? ⟨w.heap.size + 1 + 1, 0, none⟩ = some (.slice none 0 0) := by rw [cell_of_heap hT7]; rfl
    have t1 : w7.cell? ⟨w.heap.size + 1 + 1, 1, none⟩ = some (.slice none 0 0) := by rw [cell_of_heap hT7]; rfl
    have f0 := frozen_of_heap hT7 0
    have f1 := frozen_of_heap hT7 1
    have hB8 := heap_set2 (a := .slice A7 n7 c7) (b := .slice B7 m7 d7) hB7 (show w.heap.size ≠ w.heap.size + 1 + 1 by omega)
    have hC8 := heap_set2 (a := .slice A7 n7 c7) (b := .slice B7 m7 d7) hC7 (show w.heap.size + 1 ≠ w.heap.size + 1 + 1 by omega)
    obtain ⟨r1, r2, r3⟩ := fin67 hT7 hR7 (hga.trans hgz) (show w.heap.size ≤ w.heap.size + 1 + 1 by omega)
    have R1 := Lib.hid r1
    have R2 := Lib.hid r2
    have R3 := Lib.hid r3
    clear r1 r2 r3
    refine wpAnyH_ready (rs := [13]) (by kernel_rfl) (by simp) ?_
    refine AllReadyH.cons rfl (fun K hK => ?_) AllReadyH.nil
    go_simp
    refine hK.out _ _ ?_ (fun hHeld => ?_)
    · exact ⟨(cell_of_heap hB8 0).trans rfl, (cell_of_heap hB8 1).trans rfl, (cell_of_heap hC8 0).trans rfl, (cell_of_heap hC8 1).trans rfl, (cell_of_heap hC8 2).trans rfl⟩
    clear hK K
    try simp only [Act.put, List.getElem_toArray, List.getElem_cons_succ, List.getElem_cons_zero, List.setIfInBounds_toArray, List.set_cons_zero, List.set_cons_succ]
    refine wpAnyH_take (i := 14) (v := ?_) rfl (by kernel_rfl) (by kernel_rfl) (by kernel_rfl) (fun _ _ _ h => h) (Or.inl ⟨by first | kernel_rfl | rfl, ?_⟩) (by assumption) ?_
    rotate_left
    · intro w hSw; (try dsimp only at hSw); (try go_split_ands); go_simp; first | done | with_reducible rfl
    try simp only [Act.put, List.getElem_toArray, List.getElem_cons_succ, List.getElem_cons_zero, List.setIfInBounds_toArray, List.set_cons_zero, List.set_cons_succ]
    refine wpAnyH_done (by kernel_rfl) ?_ _
    refine NoPanic.normal ?_
    clear hB8 hC8 hB7 hC7 hT7 hR7 hgz t0 t1 f0 f1 kp hpk
    go_wp2
    exact results_cell_tmp67 rfl rfl rfl R1.out rfl ⟨_, rfl, R2.out, R3.out⟩
  rw [writeS, if_neg hl, writeE, if_neg hl]
  by_cases hy : mayG s u o = true
  · have hn : inG E off s = false := by
      have : ¬ inG E off s = true := fun hh => hl (by rw [layB, hy, hh]; rfl)
      simpa using this
    rw [hy] at hm
    have hin := fun w2 (hg2 : Grow wa w2) => rinG ((h1.grow hg2).ref hf) off s E hE hE2 hoff
    rw [hn] at hin
    clear hl hy hn
    go_enter Try.func192, Try.ntmps192
    go_wp2_with fail
    refine hm.mono ?_
    rintro e w2 ⟨rfl, hg2⟩
    have hC2 := hg2.heap hC
    have hB2 := hg2.heap hB
    clear c0 c1 c2 hm
    have c0 : w2.cell? ⟨w.heap.size + 1, 0, none⟩ = some (.int .u64 (s : Int)) := by rw [cell_of_heap hC2]; rfl
    have b0 : w2.cell? ⟨w.heap.size, 0, none⟩ = some (.slice A n c') := by rw [cell_of_heap hB2]; rfl
    have b1 : w2.cell? ⟨w.heap.size, 1, none⟩ = some (.slice B m d) := by rw [cell_of_heap hB2]; rfl
    go_wp2_with fail
    refine (hin w2 hg2).mono ?_
    rintro e w3 ⟨rfl, hg3⟩
    have hgF := hg2.trans hg3
    clear hin hg2 hg3 c0 b0 b1 hC2 hB2
    have hB2 := hgF.heap hB
    have hT2 := hgF.heap hT
    have h2 := h1.grow hgF
    have hgz := hga.trans hgF
    clear hB hT h1 hX1
    have b0 : w3.cell? ⟨w.heap.size, 0, none⟩ = some (.slice A n c') := by rw [cell_of_heap hB2]; rfl
    have b1 : w3.cell? ⟨w.heap.size, 1, none⟩ = some (.slice B m d) := by rw [cell_of_heap hB2]; rfl
    have t0 : w3.cell? ⟨w.heap.size + 1 + 1, 0, none⟩ = some (.slice none 0 0) := by rw [cell_of_heap hT2]; rfl
    have t1 : w3.cell? ⟨w.heap.size + 1 + 1, 1, none⟩ = some (.slice none 0 0) := by rw [cell_of_heap hT2]; rfl
    have f0 := frozen_of_heap hT2 0
    have f1 := frozen_of_heap hT2 1
    obtain ⟨r1, r2, r3⟩ := fin67 hT2 h2 hgz (show w.heap.size ≤ w.heap.size + 1 + 1 by omega)
    have R1 := Lib.hid r1
    have R2 := Lib.hid r2
    have R3 := Lib.hid r3
    clear r1 r2 r3 h2 hgz hB2 hT2
    go_wp2
    exact results_cell_tmp67 rfl rfl rfl R1.out rfl ⟨_, rfl, R2.out, R3.out⟩
  · have hy2 : mayG s u o = false := by simpa using hy
    rw [hy2] at hm
    clear hl hy hy2
    go_enter Try.func192, Try.ntmps192
    go_wp2_with fail
    refine hm.mono ?_
    rintro e w3 ⟨rfl, hgF⟩
    clear c0 c1 c2 hm
    have hB2 := hgF.heap hB
    have hT2 := hgF.heap hT
    have h2 := h1.grow hgF
    have hgz := hga.trans hgF
    clear hB hT h1 hX1
    have b0 : w3.cell? ⟨w.heap.size, 0, none⟩ = some (.slice A n c') := by rw [cell_of_heap hB2]; rfl
    have b1 : w3.cell? ⟨w.heap.size, 1, none⟩ = some (.slice B m d) := by rw [cell_of_heap hB2]; rfl
    have t0 : w3.cell? ⟨w.heap.size + 1 + 1, 0, none⟩ = some (.slice none 0 0) := by rw [cell_of_heap hT2]; rfl
    have t1 : w3.cell? ⟨w.heap.size + 1 + 1, 1, none⟩ = some (.slice none 0 0) := by rw [cell_of_heap hT2]; rfl
    have f0 := frozen_of_heap hT2 0
    have f1 := frozen_of_heap hT2 1
    obtain ⟨r1, r2, r3⟩ := fin67 hT2 h2 hgz (show w.heap.size ≤ w.heap.size + 1 + 1 by omega)
    have R1 := Lib.hid r1
    have R2 := Lib.hid r2
    have R3 := Lib.hid r3
    clear r1 r2 r3 h2 hgz hB2 hT2
    go_wp2
    exact results_cell_tmp67 rfl rfl rfl R1.out rfl ⟨_, rfl, R2.out, R3.out⟩
end Go.Proofs.Ck
