/- A part of the proofs of this seat's laws. -/
import Derived.Test.YtpakfelekphbmaaLoad
import Derived.StillTailTactics
namespace Go.Proofs.Ck
open Go Go.RowKit

theorem byteOf_int (v i : Nat) : ((byteOf v i : Nat) : Int) = (v : Int) / 2 ^ (8 * i) % 256 := by
  have e : (256 : Nat) ^ i = 2 ^ (8 * i) := by rw [Nat.pow_mul]
  unfold byteOf
  rw [e]
  simp only [Int.natCast_emod, Int.natCast_ediv, Int.natCast_pow]
  rfl

set_option maxHeartbeats 400000 in
theorem store1 (w : World) (B v i : Nat) (_hv : v < 18446744073709551616) (hi : i < 8) (hB : w.cell? ⟨B, 0, none⟩ = some (.int .u64 (v : Int))) :
    Calls Try.prog 146 #[.int .i64 (i : Int), .pointer (some ⟨B, 0, none⟩)] w fun e w' => e = .returned (.int .u8 ((byteOf v i : Nat) : Int)) ∧ w = w' := by
  go_enter Try.func146, Try.ntmps146
  go_wp2
  go_ret
  refine ⟨?_, rfl⟩
  show Ending.returned (Value.int IntKind.u8 ((v : Int) / 2 ^ (8 * i) % 256)) = _
  congr 2
  exact (byteOf_int v i).symm

theorem SegRep.moved {w w' : World} {sb bb cap : Nat} {cs : Array Value} {W : List Nat} (h : SegRep w sb bb cap cs W) (h1 : w'.heap[sb]? = w.heap[sb]?) (h2 : w'.heap[bb]? = w.heap[bb]?) : SegRep w' sb bb cap cs W :=
  ⟨h1.trans h.seg, h2.trans h.bytes, h.size, h.le, h.capLe, h.small, h.cell, h.words⟩
theorem SegRep.grow {w w' : World} {sb bb cap : Nat} {cs : Array Value} {W : List Nat} (h : SegRep w sb bb cap cs W) (hg : Grow w w') : SegRep w' sb bb cap cs W :=
  h.moved (hg.block _ h.lt) (hg.block _ h.lt')
theorem SegRep.ne {w : World} {sb bb cap : Nat} {cs : Array Value} {W : List Nat} (h : SegRep w sb bb cap cs W) : sb ≠ bb := by
  rintro rfl
  have := h.seg.symm.trans h.bytes
  simp at this

set_option maxRecDepth 100000 in
set_option maxHeartbeats 1000000 in
theorem store_ok {w : World} {sb bb cap : Nat} {cs : Array Value} {W : List Nat} (h : SegRep w sb bb cap cs W) (off v : Nat) (hm : off % 8 = 0) (hlt : off / 8 < W.length) (hv : v < 18446744073709551616) :
    Calls Try.prog 56 #[.pointer (some ⟨sb, 0, none⟩), .int .u64 off, .int .u64 v] w fun e w' => e = .returned (.int .i64 0) ∧ (∃ cs', SegRep w' sb bb cap cs' (W.set (off / 8) v)) ∧ Only (· = bb) w w' := by
  have hs := h.small
  have hle := h.le
  have hcp := h.capLe
  have hhead := h.head
  have hsb := h.lt
  have hbb := h.lt'
  go_enter Try.func56, Try.ntmps56
  go_wp2_with (go_at_call 145; refine (in_ok (h.grow ((Below.refl _ w).alloc (Nat.le_refl _) _)) off hm hlt).mono ?_; rintro e w' ⟨rfl, rfl⟩)
  have hg0 : Grow w (w.alloc (Obj.cells #[Value.int IntKind.u64 ↑v] 22)) := (Below.refl _ w).alloc (Nat.le_refl _) _
  have hbx : (w.alloc (Obj.cells #[Value.int IntKind.u64 ↑v] 22)).heap[w.heap.size]? = some (.cells #[.int .u64 (v : Int)] 22 (0, 0)) := World.alloc_heap_new w _
  have hne := h.ne
  go_loopw [14] (fun i wr => ∃ k : Nat, k ≤ 8 ∧ i = .int .i64 (k : Int) ∧ Only (· = bb) w wr ∧ wr.heap[w.heap.size]? = some (.cells #[.int .u64 (v : Int)] 22 (0, 0)) ∧
      (∃ c : Array Value, wr.heap[bb]? = some (.cells c 5 (0, 0)) ∧ c.size = cap ∧ (∀ j, j < 8 * W.length → c[j]? = some (.int .u8 ((if off ≤ j ∧ j < off + k then byteOf v (j - off) else segByte W j : Nat) : Int)))))
    (fun i _ => 8 - (intOf i).toNat)
  case atStart => exact ⟨0, by omega, rfl, .of_below hg0, hbx, cs, hg0.heap h.bytes, h.size, fun j hj => by rw [if_neg (by omega)]; exact h.cell j hj⟩
  case round =>
    obtain ⟨k, hk, rfl, ho, hbr, c, hc, hcz, hcell⟩ := hrel
    by_cases hlt8 : k < 8
    · have hh : wr.cell? ⟨sb, 0, none⟩ = some (.slice (some ⟨bb, 0, none⟩) (8 * W.length) cap) := by
        rw [cell_of_heap (ho.heap h.seg hne)]; rfl
      have hbc : wr.cell? ⟨w.heap.size, 0, none⟩ = some (.int .u64 (v : Int)) := by rw [cell_of_heap hbr]; rfl
      have hjc := hcell (off + k) (by omega)
      go_wp2
      go_still_tail 11, (by kernel_rfl)
      still_call (sames (store1 wr.drew w.heap.size v k hv hlt8 hbc))
      refine wpStill_nil ?_
      change wpList _ _ _ _ _ wr.drew
      have ho' : Only (· = bb) w wr.drew := ho.drew
      have hbr' : wr.drew.heap[w.heap.size]? = some (.cells #[.int .u64 (v : Int)] 22 (0, 0)) := hbr
      have hc' : wr.drew.heap[bb]? = some (.cells c 5 (0, 0)) := hc
      clear ho hbr hc hh hbc
      generalize wr.drew = w2 at ho' hbr' hc' ⊢
      have hcj : w2.cell? ⟨bb, off + k, none⟩ = some (.int .u8 ((segByte W (off + k) : Nat) : Int)) := by
        rw [cell_of_heap hc', hjc, if_neg (by omega)]
      have hfj : w2.frozen? ⟨bb, off + k, none⟩ = false := frozen_of_heap hc' _
      clear hjc
      go_wp2
      go_roundw
      case rel =>
        refine ⟨k + 1, by omega, by go_num, ho'.setCell rfl _, ?_, c.setIfInBounds (off + k) (.int .u8 ((byteOf v k : Nat) : Int)), heap_setCell_row hc' _, by simpa using hcz, fun j hj => ?_⟩
        · rw [Below.heap_setCell _ _ _ _ (by simp; omega)]; exact hbr'
        · rw [Array.getElem?_setIfInBounds]
          by_cases e : off + k = j
          · subst e
            rw [if_pos rfl, if_pos (by omega), if_pos (by omega)]
            congr 4; omega
          · rw [if_neg e, hcell j hj]
            by_cases hj2 : off ≤ j ∧ j < off + k
            · rw [if_pos hj2, if_pos (by omega)]
            · rw [if_neg hj2, if_neg (by omega)]
      case measure => simp [intOf]; omega
    · obtain rfl : k = 8 := by omega
      go_wp2
      go_ret
      refine ⟨rfl, ⟨c, (ho.heap h.seg hne).trans (by simp), hc, hcz, by simpa using hle, hcp, by simpa using hs, fun j hj => ?_, fun x hx => ?_⟩, ho⟩
      · rw [hcell j (by simpa using hj)]
        congr 3
        by_cases hj2 : off ≤ j ∧ j < off + 8
        · rw [if_pos hj2]
          have e1 : j / 8 = off / 8 := by omega
          have e2 : j % 8 = j - off := by omega
          simp [segByte, e1, e2, List.getD_eq_getElem?_getD, hlt]
        · rw [if_neg hj2]
          have e1 : off / 8 ≠ j / 8 := by omega
          simp [segByte, List.getD_eq_getElem?_getD, List.getElem?_set_ne e1]
      · rcases List.mem_or_eq_of_mem_set hx with hx | rfl
        · exact h.words x hx
        · exact hv
end Go.Proofs.Ck
