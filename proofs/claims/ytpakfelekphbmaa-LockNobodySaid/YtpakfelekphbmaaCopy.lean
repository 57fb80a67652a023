/- A part of the proofs of this seat's laws. -/
import Derived.Test.YtpakfelekphbmaaRdiff2
namespace Go.Proofs.Ck
open Go Go.RowKit

theorem SegRep.row {w : World} {sb bb cap : Nat} {cs : Array Value} {W : List Nat} (h : SegRep w sb bb cap cs W) : Row (fun b => b = bb) w (some ⟨bb, 0, none⟩) (8 * W.length) 1 (u8s (bytesOf W 0 (8 * W.length))) := by
  refine Row.of_block h.bytes rfl (by rw [u8s_length, bytesOf_length, Nat.mul_one]) fun j u hj => ?_
  have hl := (List.getElem?_eq_some_iff.1 hj).1
  rw [u8s_length, bytesOf_length] at hl
  rw [h.cell j hl, ← hj]
  simp [u8s, bytesOf, hl]

set_option maxRecDepth 100000 in
set_option maxHeartbeats 1000000 in
theorem clone_ok {w : World} {b n c : Nat} {xs : List Value} {S : Nat → Prop} (h : Row S w (some ⟨b, 0, none⟩) n 1 xs) (h1 : ∀ u ∈ xs, u.oneCell' = true) (hn : n ≤ 140737488351232) :
    Calls Try.prog 144 #[.slice (some ⟨b, 0, none⟩) n c] w fun e w' => (∃ v, e = .returned v ∧ w'.ownsRow w.heap.size 5 1 v n xs) ∧ Grow w w' := by
  obtain ⟨i5, hi, hz, hsz, hb⟩ := info_parts info5
  have hg0 : Grow w (w.alloc (Obj.cells #[] 5)) := (Below.refl _ w).alloc (Nat.le_refl _) _
  have hq := fun (wx : World) (x : Addr) (l k : Nat) => Lib.run_eql_slice_nil (P := Try.prog) wx 30 5 (some x) l k 0 0 Try.underlying30
  go_enter Try.func144, Try.ntmps144
  go_wp2_with (at_builtin; refine wpList_append_row (S := S) _ rfl (.tmp 5) (.tmp 6) 30 rfl w.heap.size 5 i5 (.int .u8 0) 1 1 Try.underlying30 hi hz hsz hb rfl (by decide) _ 0 [] rfl (World.ownsRow_made w #[] 0 (Nat.le_refl _) (Nat.zero_le _) rfl) _ _ _ xs rfl (h.grow hg0) (fun x => by cases x) h1 (by unfold maxLen; omega) (by omega) (by simp) ?_)
  intro v' w1 hown ho
  replace hown : w1.ownsRow w.heap.size 5 1 v' n xs := by simpa using hown
  have hg1 : Grow w w1 := (Only.below ((Only.of_below hg0).trans ho) (Nat.le_refl _) (fun k hk => by simp [Value.ownBlock] at hk; omega))
  go_wp2
  go_ret
  exact ⟨⟨v', rfl, hown⟩, hg1⟩

theorem bytesOf_get {W : List Nat} {n j : Nat} (h : j < n) : (u8s (bytesOf W 0 n))[j]? = some (.int .u8 ((segByte W j : Nat) : Int)) := by
  simp [u8s, bytesOf, h]

set_option maxRecDepth 100000 in
set_option maxHeartbeats 1000000 in
theorem copy_ok {w : World} {sb bb cap : Nat} {cs : Array Value} {W : List Nat} (h : SegRep w sb bb cap cs W) (h0 : 0 < W.length) :
    Calls Try.prog 55 #[.pointer (some ⟨sb, 0, none⟩)] w fun e w' => (∃ sb' bb' cap' cs', e = .returned (.pointer (some ⟨sb', 0, none⟩)) ∧ SegRep w' sb' bb' cap' cs' W ∧ w.heap.size ≤ sb' ∧ w.heap.size ≤ bb') ∧ Grow w w' := by
  have hhead := h.head
  have hs := h.small
  go_enter Try.func55, Try.ntmps55
  go_wp2_with fail
  refine (clone_ok h.row (u8s_one _) h.small).mono ?_
  rintro e w1 ⟨⟨v, rfl, hown⟩, hg1⟩
  obtain ⟨g, cap', cur, hv, hbg, hgc, hcap, hcm, hcz, hcur⟩ := own_form hown (by omega)
  subst hv
  clear hown hhead
  have H := Lib.hid hcur; clear hcur
  go_wp2
  go_ret
  have hg2 : Grow w1 (w1.alloc (.cells #[.slice (some ⟨g, 0, none⟩) (8 * W.length) cap'] 174)) := (Below.refl _ w1).alloc (Nat.le_refl _) _
  refine ⟨⟨w1.heap.size, g, cap', cur, rfl, ⟨World.alloc_heap_new w1 _, hg2.heap hgc, by simpa using hcz, hcap, by unfold maxLen at hcm; exact hcm, hs, fun j hj => H.out j _ (bytesOf_get hj), h.words⟩, hg1.size, hbg⟩, hg1.trans hg2⟩

set_option maxHeartbeats 400000 in
theorem copy_nil (w : World) : Calls Try.prog 55 #[.pointer none] w fun e w' => e = .returned (.pointer none) ∧ w = w' := by
  go_enter Try.func55, Try.ntmps55
  go_wp2
  go_ret
  exact ⟨rfl, rfl⟩

end Go.Proofs.Ck
