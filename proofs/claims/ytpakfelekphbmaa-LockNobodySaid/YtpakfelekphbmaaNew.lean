/- A part of the proofs of this seat's laws. -/
import Derived.Test.YtpakfelekphbmaaRef2
namespace Go.Proofs.Ck
open Go Go.RowKit

theorem info5 : (Try.prog.info? 5).map (fun i => (i.zero, i.size, i.bytes)) = some (some (.int .u8 0), 1, 1) := by kernel_rfl

set_option maxHeartbeats 400000 in
theorem may_ok (size : Nat) (w : World) (h0 : 0 < size) (hm : size % 8 = 0) (hl : size ≤ 1048576) :
    Calls Try.prog 43 #[.int .u64 (size : Int)] w fun e w' => e = .returned (.bool true) ∧ w = w' := by
  go_enter Try.func43, Try.ntmps43
  go_wp2
  all_goals (go_ret; refine ⟨?_, rfl⟩; simp)
  all_goals first | omega | skip

set_option maxHeartbeats 400000 in
theorem may_bad (size : Nat) (w : World) (hz : size < 18446744073709551616) (h : ¬ (0 < size ∧ size % 8 = 0 ∧ size ≤ 1048576)) :
    Calls Try.prog 43 #[.int .u64 (size : Int)] w fun e w' => e = .returned (.bool false) ∧ w = w' := by
  by_cases h0 : 0 < size
  · by_cases hm : size % 8 = 0
    · have hl : ¬ size ≤ 1048576 := fun x => h ⟨h0, hm, x⟩
      go_enter Try.func43, Try.ntmps43
      go_wp2
      all_goals (go_ret; refine ⟨?_, rfl⟩; simp)
      all_goals first | omega | skip
    · go_enter Try.func43, Try.ntmps43
      go_wp2
      all_goals (go_ret; refine ⟨?_, rfl⟩; simp)
      all_goals first | omega | skip
  · go_enter Try.func43, Try.ntmps43
    go_wp2
    all_goals (go_ret; refine ⟨?_, rfl⟩; simp)
    all_goals first | omega | skip

set_option maxRecDepth 100000 in
set_option maxHeartbeats 1000000 in
theorem rnew_ok (size : Nat) (w : World) (h0 : 0 < size) (hm : size % 8 = 0) (hl : size ≤ 1048576) :
    Calls Try.prog 140 #[.int .u64 (size : Int)] w fun e w' => ∃ g, (e = .returned (.slice (some ⟨g, 0, none⟩) (size / 8) (size / 8)) ∧ w'.ownsRow w.heap.size 22 1 (.slice (some ⟨g, 0, none⟩) (size / 8) (size / 8)) (size / 8) (u64s (List.replicate (size / 8) 0))) ∧ Grow w w' := by
  obtain ⟨i22, hi, hz, hs, hb⟩ := info_parts info22
  go_enter Try.func140, Try.ntmps140
  go_wp2_with (first
    | (go_at_call 43; refine (may_ok _ _ h0 hm hl).mono ?_; rintro e w' ⟨rfl, rfl⟩)
    | (at_make; refine wpList_make_full _ rfl _ _ 27 rfl w.heap.size 22 i22 (.int .u64 0) 1 Try.underlying27 hi hz hs .u64 .u64 _ _ (size / 8) rfl rfl (by simp [go_sem]) (by simp [go_sem]) (by rw [hb]; omega) (by unfold maxLen; omega) (Nat.le_refl _) ?_))
  intro w1 hown hg
  go_wp2
  go_ret
  refine ⟨_, ⟨rfl, ?_⟩, ?_⟩
  · rw [toList_madeCells_one] at hown
    simpa [u64s] using hown
  · exact (only_of_grown hg).below (Nat.le_refl _) (fun _ h => by cases h)

set_option maxHeartbeats 400000 in
theorem rnew_bad (size : Nat) (w : World) (hz : size < 18446744073709551616) (h : ¬ (0 < size ∧ size % 8 = 0 ∧ size ≤ 1048576)) :
    Calls Try.prog 140 #[.int .u64 (size : Int)] w fun e w' => e = .returned (.slice none 0 0) ∧ w = w' := by
  go_enter Try.func140, Try.ntmps140
  go_wp2_with (go_at_call 43; refine (may_bad _ _ hz h).mono ?_; rintro e w' ⟨rfl, rfl⟩)
  go_ret
  exact ⟨rfl, rfl⟩

theorem segByte_zero (n j : Nat) : segByte (List.replicate n 0) j = 0 := by
  have h : ∀ i, (List.replicate n 0).getD i 0 = 0 := by
    intro i
    rw [List.getD_eq_getElem?_getD, List.getElem?_replicate]
    split <;> rfl
  simp only [segByte, byteOf, h]
  simp

set_option maxRecDepth 100000 in
set_option maxHeartbeats 1000000 in
theorem snew_ok (size : Nat) (w : World) (h0 : 0 < size) (hm : size % 8 = 0) (hl : size ≤ 1048576) :
    Calls Try.prog 139 #[.int .u64 (size : Int)] w fun e w' => (∃ sb bb cs, e = .returned (.pointer (some ⟨sb, 0, none⟩)) ∧ SegRep w' sb bb size cs (List.replicate (size / 8) 0) ∧ w.heap.size ≤ sb ∧ w.heap.size ≤ bb) ∧ Grow w w' := by
  obtain ⟨i5, hi, hz, hs, hb⟩ := info_parts info5
  have hz0 : ((size : Int) == 0) = false := by simp; omega
  go_enter Try.func139, Try.ntmps139
  go_wp2_with (at_make; refine wpList_make_full _ rfl _ _ 30 rfl w.heap.size 5 i5 (.int .u8 0) 1 Try.underlying30 hi hz hs .u64 .u64 _ _ size rfl rfl (by simp [go_sem]) (by simp [go_sem]) (by rw [hb]; omega) (by unfold maxLen; omega) (Nat.le_refl _) ?_)
  intro w1 hown hg
  rw [toList_madeCells_one] at hown
  have hb1 : Below w.heap.size w w1 := (only_of_grown hg).below (Nat.le_refl _) (fun _ h => by cases h)
  obtain ⟨g, cap, cur, hv, hbg, hgc, hcap, hcm, hcz, hcur⟩ := own_form hown h0
  have hv' := hv
  simp only [Value.slice.injEq, Option.some.injEq, Addr.mk.injEq, and_true, true_and] at hv'
  obtain ⟨rfl, rfl⟩ := hv'
  clear hown hv
  have H := Lib.hid hcur; clear hcur
  go_wp2
  go_ret
  have hg2 : Grow w1 (w1.alloc (.cells #[.slice (some ⟨w.heap.size, 0, none⟩) size size] 174)) := (Below.refl _ w1).alloc (Nat.le_refl _) _
  have e8 : 8 * (List.replicate (size / 8) 0).length = size := by simp; omega
  refine ⟨⟨w1.heap.size, w.heap.size, cur, rfl, ⟨?_, hg2.heap hgc, by simpa using hcz, by omega, by omega, by omega, fun j hj => ?_, fun x hx => ?_⟩, hb1.size, Nat.le_refl _⟩, Grow.trans hb1 hg2⟩
  · rw [e8]; exact World.alloc_heap_new w1 _
  · rw [segByte_zero]
    exact H.out j _ (by rw [List.getElem?_replicate, if_pos (by omega)]; rfl)
  · have := (List.mem_replicate.1 hx).2; omega

set_option maxHeartbeats 400000 in
theorem snew_bad (size : Nat) (w : World) (hz : size < 18446744073709551616) (h : ¬ (0 < size ∧ size % 8 = 0 ∧ size ≤ 1048576)) :
    Calls Try.prog 139 #[.int .u64 (size : Int)] w fun e w' => e = .returned (.pointer none) ∧ w = w' := by
  by_cases h0 : 0 < size
  · by_cases hm : size % 8 = 0
    · have hl : ¬ size ≤ 1048576 := fun x => h ⟨h0, hm, x⟩
      go_enter Try.func139, Try.ntmps139
      go_wp2
      all_goals (go_ret; exact ⟨rfl, rfl⟩)
    · go_enter Try.func139, Try.ntmps139
      go_wp2
      all_goals (go_ret; exact ⟨rfl, rfl⟩)
  · go_enter Try.func139, Try.ntmps139
    go_wp2
    all_goals (go_ret; exact ⟨rfl, rfl⟩)

end Go.Proofs.Ck
