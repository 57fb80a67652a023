/- The ledger's law: awake. -/
import Derived.Test.YtpakfelekphbmaaGLl
import Derived.Test.YtpakfelekphbmaaGDirW
namespace Go.Proofs.Ck
open Go Go.RowKit

theorem ats_two : atsL [(0, 0, 0), (0, 0, 0)] = [3776, 3824, 3872] := by simp [atsL, layA, pS]
theorem pcs_two : pcs [(0, 0, 0), (0, 0, 0)] = [.int .u8 0, .int .u8 0, .int .u16 0, .int .u8 0, .int .u8 0, .int .u16 0] := rfl

set_option maxRecDepth 100000 in
set_option maxHeartbeats 4000000 in
theorem awake09 (w : World) : Calls Try.prog 107 #[] w fun e w' => e = .returned (.bool true) ∧ Grow w w' := by
  have hga : Grow w (w.alloc (.cells #[.int .u8 0, .int .u8 0, .int .u16 0, .int .u8 0, .int .u8 0, .int .u16 0] 204)) := (Below.refl _ _).alloc (Nat.le_refl _) _
  have hbx := World.alloc_heap_new w (.cells #[.int .u8 0, .int .u8 0, .int .u16 0, .int .u8 0, .int .u8 0, .int .u16 0] 204)
  have hD : Row (fun b => b < (w.alloc (.cells #[.int .u8 0, .int .u8 0, .int .u16 0, .int .u8 0, .int .u8 0, .int .u16 0] 204)).heap.size) (w.alloc (.cells #[.int .u8 0, .int .u8 0, .int .u16 0, .int .u8 0, .int .u8 0, .int .u16 0] 204)) (some ⟨w.heap.size, 0, none⟩) 2 3 (pcs [(0, 0, 0), (0, 0, 0)]) :=
    Row.of_block hbx (by simp) rfl (fun j u hj => by
      rw [pcs_two] at hj
      rw [List.getElem?_toArray] 
      exact hj)
  have hlaid := laid_call (w0 := w) (l := [(0, 0, 0), (0, 0, 0)]) (cD := 2) (K0 := fun _ _ => True) hga hD (Nat.le_refl _) (by simp) (by simp) stable_true trivial
  obtain ⟨hled, -, -, -⟩ := laid_led [(0, 0, 0), (0, 0, 0)]
  unfold LaidP at hlaid
  rw [ats_two] at hlaid hled
  rw [show ([3776, 3824, 3872] : List Nat).length = 3 from rfl] at hlaid
  clear hga hbx hD
  obtain ⟨f, hf⟩ : ∃ g, (laidS [(0, 0, 0), (0, 0, 0)]).load = g := ⟨_, rfl⟩
  rw [hf] at hlaid hled
  clear hf
  have h1 := hled.link (c := 1) (off := 3776) (by omega) (by simp) (by simp)
  have h2 := h1.link (c := 1) (off := 3824) (by omega) (by simp) (by intro d hd; split <;> simp)
  have h3 := h2.unlink (c := 1) (off := 3776) (by omega) (by simp)
  have hc3 : chkB (unlinkF (linkF (linkF f 1 3776) 1 3824) 1 3776) ((1 : Nat) : Int) [3824] = true := h3.lists.told h3.room (c := 1) (by omega)
  have hh3 : unlinkF (linkF (linkF f 1 3776) 1 3824) 1 3776 (hdO 1) = 3824 := h3.lists.head (c := 1) (by omega)
  have hn3 : chkB (unlinkF (linkF (linkF f 1 3776) 1 3824) 1 3776) ((1 : Nat) : Int) [] = false := chk_no_head (by rw [getF_hd (by omega) hh3]; simp)
  have HH := Lib.hid (⟨hled, h1, h2, hc3, hh3, hn3⟩ : _ ∧ _ ∧ _ ∧ _ ∧ _ ∧ _)
  clear hled h1 h2 h3 hc3 hh3 hn3
  go_enter Try.func107, Try.ntmps107
  go_wp2_with fail
  refine (show Calls _ _ #[.slice _ 2 2] _ _ from hlaid).mono ?_
  clear hlaid
  rintro e w2 ⟨base, p, A, cA, rfl, L2⟩
  obtain ⟨X, hX⟩ := L2.know
  obtain ⟨b, o, rfl, -, -⟩ := hX.1.pos (by omega) (by omega)
  clear hX X
  have hrow : ∀ {w' : World}, (∃ X : Nat → Prop, Row (fun b => ¬ X b) w' (some ⟨b, o, none⟩) 3 1 (u64s [3776, 3824, 3872]) ∧ True) → w'.cell? ⟨b, o, none⟩ = some (.int .u64 3776) ∧ w'.cell? ⟨b, o + 1, none⟩ = some (.int .u64 3824) := fun {w'} h => by
    obtain ⟨X, hX, -⟩ := h
    obtain ⟨b', o', e, -, hc⟩ := hX.pos (by omega) (by omega)
    cases e
    exact ⟨hc 0 _ rfl, hc 1 _ rfl⟩
  obtain ⟨x0, x1⟩ := hrow L2.know
  have H3 := L2.linkL HH.out.1 (c := 1) (off := 3776) (by omega) (by simp)
  go_wp2_with fail
  refine (show Calls _ _ #[_, .int .i64 1, .int .u64 3776] _ _ from H3).mono ?_
  rintro e w3 ⟨rfl, L3⟩
  clear H3 L2 x0 x1
  obtain ⟨x0, x1⟩ := hrow L3.know
  have H4 := L3.linkL HH.out.2.1 (c := 1) (off := 3824) (by omega) (by simp)
  go_wp2_with fail
  refine (show Calls _ _ #[_, .int .i64 1, .int .u64 3824] _ _ from H4).mono ?_
  rintro e w4 ⟨rfl, L4⟩
  clear H4 L3 x0 x1
  have H5 := L4.listL HH.out.2.2.1 (c := 1) (l := [3824, 3776]) (n := 2) (by omega) rfl rfl
  go_wp2_with fail
  refine (show Calls _ _ #[_, .int .i64 1] _ _ from H5).mono ?_
  rintro e w5 ⟨A5, c5, rfl, L5⟩
  clear H5 L4
  obtain ⟨X5, hX5⟩ := L5.know
  obtain ⟨b5, o5, rfl, -, -⟩ := hX5.1.pos (by omega) (by omega)
  have hrow2 : ∀ {w' : World}, (∃ X : Nat → Prop, Row (fun b => ¬ X b) w' (some ⟨b5, o5, none⟩) 2 1 (u64s [3824, 3776]) ∧ Row (fun b => ¬ X b) w' (some ⟨b, o, none⟩) 3 1 (u64s [3776, 3824, 3872]) ∧ True) → w'.cell? ⟨b, o, none⟩ = some (.int .u64 3776) ∧ w'.cell? ⟨b, o + 1, none⟩ = some (.int .u64 3824) ∧ w'.cell? ⟨b5, o5, none⟩ = some (.int .u64 3824) := fun {w'} h => by
    obtain ⟨X, hX, hY⟩ := h
    obtain ⟨b', o', e, -, hc⟩ := hX.pos (by omega) (by omega)
    cases e
    obtain ⟨y0, y1⟩ := hrow ⟨X, hY⟩
    exact ⟨y0, y1, hc 0 _ rfl⟩
  obtain ⟨x0, x1, z0⟩ := hrow2 L5.know
  have H6 := L5.unlinkL HH.out.2.2.1 (c := 1) (off := 3776) (by omega) (by simp)
  clear hX5 X5
  go_wp2_with fail
  refine (show Calls _ _ #[_, .int .i64 1, .int .u64 3776] _ _ from H6).mono ?_
  rintro e w6 ⟨rfl, L6⟩
  clear H6 L5 x0 x1 z0 hrow
  generalize unlinkF (linkF (linkF f 1 3776) 1 3824) 1 3776 = g at L6 HH
  obtain ⟨x0, x1, z0⟩ := hrow2 L6.know
  have L7 := L6.drew
  clear L6
  go_wp2
  refine region_plain (fun w' => w'.cell? ⟨b, o + 1, none⟩ = some (.int .u64 3824) ∧ w'.cell? ⟨b5, o5, none⟩ = some (.int .u64 3824)) (by kernel_rfl) ⟨x1, z0⟩ (fun hHeld => ?_)
  refine wpAnyH_take (i := 0) (v := ?_) rfl (by kernel_rfl) (by kernel_rfl) (by kernel_rfl) (fun _ _ _ h => h) (Or.inl ⟨by first | kernel_rfl | rfl, ?_⟩) (by assumption) ?_
  rotate_left
  · intro w hSw; (try dsimp only at hSw); (try go_split_ands); go_simp; first | done | with_reducible rfl
  try simp only [Act.put, List.getElem_toArray, List.getElem_cons_zero, List.setIfInBounds_toArray, List.set_cons_zero, List.set_cons_succ]
  refine wpAnyH_take (i := 1) (v := ?_) rfl (by kernel_rfl) (by kernel_rfl) (by kernel_rfl) (fun _ _ _ h => h) (Or.inl ⟨by first | kernel_rfl | rfl, ?_⟩) (by assumption) ?_
  rotate_left
  · intro w hSw; (try dsimp only at hSw); (try go_split_ands); go_simp; first | done | with_reducible rfl
  try simp only [Act.put, List.getElem_toArray, List.getElem_cons_succ, List.getElem_cons_zero, List.setIfInBounds_toArray, List.set_cons_zero, List.set_cons_succ]
  refine wpAnyH_take (i := 2) (v := ?_) rfl (by kernel_rfl) (by kernel_rfl) (by kernel_rfl) (fun _ _ _ h => h) (Or.inl ⟨by first | kernel_rfl | rfl, ?_⟩) (by assumption) ?_
  rotate_left
  · intro w hSw; (try dsimp only at hSw); (try go_split_ands); go_simp; first | done | with_reducible rfl
  try simp only [Act.put, List.getElem_toArray, List.getElem_cons_succ, List.getElem_cons_zero, List.setIfInBounds_toArray, List.set_cons_zero, List.set_cons_succ]
  refine wpAnyH_take (i := 3) (v := ?_) rfl (by kernel_rfl) (by kernel_rfl) (by kernel_rfl) (fun _ _ _ h => h) (Or.inl ⟨by first | kernel_rfl | rfl, ?_⟩) (by assumption) ?_
  rotate_left
  · intro w hSw; (try dsimp only at hSw); (try go_split_ands); go_simp; first | done | with_reducible rfl
  try simp only [Act.put, List.getElem_toArray, List.getElem_cons_succ, List.getElem_cons_zero, List.setIfInBounds_toArray, List.set_cons_zero, List.set_cons_succ]
  refine wpAnyH_take (i := 4) (v := ?_) rfl (by kernel_rfl) (by kernel_rfl) (by kernel_rfl) (fun _ _ _ h => h) (Or.inl ⟨by first | kernel_rfl | rfl, ?_⟩) (by assumption) ?_
  rotate_left
  · intro w hSw; (try dsimp only at hSw); (try go_split_ands); go_simp; first | done | with_reducible rfl
  try simp only [Act.put, List.getElem_toArray, List.getElem_cons_succ, List.getElem_cons_zero, List.setIfInBounds_toArray, List.set_cons_zero, List.set_cons_succ]
  refine wpAnyH_take (i := 5) (v := ?_) rfl (by kernel_rfl) (by kernel_rfl) (by kernel_rfl) (fun _ _ _ h => h) (Or.inl ⟨by first | kernel_rfl | rfl, ?_⟩) (by assumption) ?_
  rotate_left
  · intro w hSw; (try dsimp only at hSw); (try go_split_ands); go_simp; first | done | with_reducible rfl
  try simp only [Act.put, List.getElem_toArray, List.getElem_cons_succ, List.getElem_cons_zero, List.setIfInBounds_toArray, List.set_cons_zero, List.set_cons_succ]
  refine wpAnyH_take (i := 6) (v := ?_) rfl (by kernel_rfl) (by kernel_rfl) (by kernel_rfl) (fun _ _ _ h => h) (Or.inl ⟨by first | kernel_rfl | rfl, ?_⟩) (by assumption) ?_
  rotate_left
  · intro w hSw; (try dsimp only at hSw); (try go_split_ands); go_simp; first | done | with_reducible rfl
  try simp only [Act.put, List.getElem_toArray, List.getElem_cons_succ, List.getElem_cons_zero, List.setIfInBounds_toArray, List.set_cons_zero, List.set_cons_succ]
  refine wpAnyH_take (i := 7) (v := ?_) rfl (by kernel_rfl) (by kernel_rfl) (by kernel_rfl) (fun _ _ _ h => h) (Or.inl ⟨by first | kernel_rfl | rfl, ?_⟩) (by assumption) ?_
  rotate_left
  · intro w hSw; (try dsimp only at hSw); (try go_split_ands); go_simp; first | done | with_reducible rfl
  try simp only [Act.put, List.getElem_toArray, List.getElem_cons_succ, List.getElem_cons_zero, List.setIfInBounds_toArray, List.set_cons_zero, List.set_cons_succ]
  refine wpAnyH_take (i := 8) (v := ?_) rfl (by kernel_rfl) (by kernel_rfl) (by kernel_rfl) (fun _ _ _ h => h) (Or.inl ⟨by first | kernel_rfl | rfl, ?_⟩) (by assumption) ?_
  rotate_left
  · intro w hSw; (try dsimp only at hSw); (try go_split_ands); go_simp; first | done | with_reducible rfl
  try simp only [Act.put, List.getElem_toArray, List.getElem_cons_succ, List.getElem_cons_zero, List.setIfInBounds_toArray, List.set_cons_zero, List.set_cons_succ]
  refine wpAnyH_take (i := 9) (v := ?_) rfl (by kernel_rfl) (by kernel_rfl) (by kernel_rfl) (fun _ _ _ h => h) (Or.inl ⟨by first | kernel_rfl | rfl, ?_⟩) (by assumption) ?_
  rotate_left
  · intro w hSw; (try dsimp only at hSw); (try go_split_ands); go_simp; first | done | with_reducible rfl
  try simp only [Act.put, List.getElem_toArray, List.getElem_cons_succ, List.getElem_cons_zero, List.setIfInBounds_toArray, List.set_cons_zero, List.set_cons_succ]
  refine wpAnyH_take (i := 10) (v := ?_) rfl (by kernel_rfl) (by kernel_rfl) (by kernel_rfl) (fun _ _ _ h => h) (Or.inl ⟨by first | kernel_rfl | rfl, ?_⟩) (by assumption) ?_
  rotate_left
  · intro w hSw; (try dsimp only at hSw); (try go_split_ands); go_simp; first | done | with_reducible rfl
  try simp only [Act.put, List.getElem_toArray, List.getElem_cons_succ, List.getElem_cons_zero, List.setIfInBounds_toArray, List.set_cons_zero, List.set_cons_succ]
  refine wpAnyH_take (i := 11) (v := ?_) rfl (by kernel_rfl) (by kernel_rfl) (by kernel_rfl) (fun _ _ _ h => h) (Or.inl ⟨by first | kernel_rfl | rfl, ?_⟩) (by assumption) ?_
  rotate_left
  · intro w hSw; (try dsimp only at hSw); (try go_split_ands); go_simp; first | done | with_reducible rfl
  try simp only [Act.put, List.getElem_toArray, List.getElem_cons_succ, List.getElem_cons_zero, List.setIfInBounds_toArray, List.set_cons_zero, List.set_cons_succ]
  refine wpAnyH_take (i := 12) (v := ?_) rfl (by kernel_rfl) (by kernel_rfl) (by kernel_rfl) (fun _ _ _ h => h) (Or.inl ⟨by first | kernel_rfl | rfl, ?_⟩) (by assumption) ?_
  rotate_left
  · intro w hSw; (try dsimp only at hSw); (try go_split_ands); go_simp; first | done | with_reducible rfl
  try simp only [Act.put, List.getElem_toArray, List.getElem_cons_succ, List.getElem_cons_zero, List.setIfInBounds_toArray, List.set_cons_zero, List.set_cons_succ]
  refine wpAnyH_take (i := 13) (v := ?_) rfl (by kernel_rfl) (by kernel_rfl) (by kernel_rfl) (fun _ _ _ h => h) (Or.inl ⟨by first | kernel_rfl | rfl, ?_⟩) (by assumption) ?_
  rotate_left
  · intro w hSw; (try dsimp only at hSw); (try go_split_ands); go_simp; first | done | with_reducible rfl
  try simp only [Act.put, List.getElem_toArray, List.getElem_cons_succ, List.getElem_cons_zero, List.setIfInBounds_toArray, List.set_cons_zero, List.set_cons_succ]
  refine wpAnyH_take (i := 14) (v := ?_) rfl (by kernel_rfl) (by kernel_rfl) (by kernel_rfl) (fun _ _ _ h => h) (Or.inl ⟨by first | kernel_rfl | rfl, ?_⟩) (by assumption) ?_
  rotate_left
  · intro w hSw; (try dsimp only at hSw); (try go_split_ands); go_simp; first | done | with_reducible rfl
  try simp only [Act.put, List.getElem_toArray, List.getElem_cons_succ, List.getElem_cons_zero, List.setIfInBounds_toArray, List.set_cons_zero, List.set_cons_succ]
  refine wpAnyH_take (i := 15) (v := ?_) rfl (by kernel_rfl) (by kernel_rfl) (by kernel_rfl) (fun _ _ _ h => h) (Or.inl ⟨by first | kernel_rfl | rfl, ?_⟩) (by assumption) ?_
  rotate_left
  · intro w hSw; (try dsimp only at hSw); (try go_split_ands); go_simp; first | done | with_reducible rfl
  try simp only [Act.put, List.getElem_toArray, List.getElem_cons_succ, List.getElem_cons_zero, List.setIfInBounds_toArray, List.set_cons_zero, List.set_cons_succ]
  refine wpAnyH_take (i := 16) (v := ?_) rfl (by kernel_rfl) (by kernel_rfl) (by kernel_rfl) (fun _ _ _ h => h) (Or.inl ⟨by first | kernel_rfl | rfl, ?_⟩) (by assumption) ?_
  rotate_left
  · intro w hSw; (try dsimp only at hSw); (try go_split_ands); go_simp; first | done | with_reducible rfl
  try simp only [Act.put, List.getElem_toArray, List.getElem_cons_succ, List.getElem_cons_zero, List.setIfInBounds_toArray, List.set_cons_zero, List.set_cons_succ]
  refine wpAnyH_ready (rs := [17]) (by kernel_rfl) (by simp) ?_
  refine AllReadyH.cons rfl (fun K hK => ?_) AllReadyH.nil
  go_simp
  have L8 := L7.alloc #[.int .u64 3824] 22
  clear L7 x0 x1 z0
  obtain ⟨x0, x1, z0⟩ := hrow2 L8.know
  have hr8 : Row (fun _ => True) (w6.drew.alloc (.cells #[.int .u64 3824] 22)) (some ⟨w6.drew.heap.size, 0, none⟩) 1 1 (u64s [3824]) := Row.of_block (L8.box (List.mem_cons_self ..)) trivial rfl (fun j u hj => by
    rw [List.getElem?_toArray]; exact hj)
  refine hK.out _ _ ?_ (fun hHeld => ?_)
  · exact ⟨x1, z0⟩
  clear hK K
  try simp only [Act.put, List.getElem_toArray, List.getElem_cons_succ, List.getElem_cons_zero, List.setIfInBounds_toArray, List.set_cons_zero, List.set_cons_succ]
  have H9 := L8.checkL (1 : Int) (cA := 1) hr8 rfl (by simp) (by simp)
  rw [show chkB g (1 : Int) [3824] = true from HH.out.2.2.2.1] at H9
  refine wpAnyH_ready (rs := [18]) (by kernel_rfl) (by simp) ?_
  refine AllReadyH.cons rfl (fun K hK => ?_) AllReadyH.nil
  go_simp
  go_at_call 109
  refine Calls.mono (show Calls _ _ #[_, .int .i64 1, .slice (some ⟨w6.heap.size, 0, none⟩) 1 1] ((w6.alloc (.cells #[.int .u64 3824] 22)).drew) _ from H9) ?_
  rintro e w9 ⟨rfl, L9⟩
  clear H9 hr8 x0 x1 z0
  replace L9 := L9.bare
  clear L8
  obtain ⟨x0, x1, z0⟩ := hrow2 L9.know
  go_wp2_with fail
  refine hK.out _ _ ?_ (fun hHeld => ?_)
  · exact ⟨x1, z0⟩
  clear hK K
  try simp only [Act.put, List.getElem_toArray, List.getElem_cons_succ, List.getElem_cons_zero, List.setIfInBounds_toArray, List.set_cons_zero, List.set_cons_succ]
  refine wpAnyH_take (i := 19) (v := ?_) rfl (by kernel_rfl) (by kernel_rfl) (by kernel_rfl) (fun _ _ _ h => h) (Or.inl ⟨by first | kernel_rfl | rfl, ?_⟩) (by assumption) ?_
  rotate_left
  · intro w hSw; (try dsimp only at hSw); (try go_split_ands); go_simp; first | done | with_reducible rfl
  try simp only [Act.put, List.getElem_toArray, List.getElem_cons_succ, List.getElem_cons_zero, List.setIfInBounds_toArray, List.set_cons_zero, List.set_cons_succ]
  refine wpAnyH_take (i := 20) (v := ?_) rfl (by kernel_rfl) (by kernel_rfl) (by kernel_rfl) (fun _ _ _ h => h) (Or.inl ⟨by first | kernel_rfl | rfl, ?_⟩) (by assumption) ?_
  rotate_left
  · intro w hSw; (try dsimp only at hSw); (try go_split_ands); go_simp; first | done | with_reducible rfl
  try simp only [Act.put, List.getElem_toArray, List.getElem_cons_succ, List.getElem_cons_zero, List.setIfInBounds_toArray, List.set_cons_zero, List.set_cons_succ]
  refine wpAnyH_take (i := 21) (v := ?_) rfl (by kernel_rfl) (by kernel_rfl) (by kernel_rfl) (fun _ _ _ h => h) (Or.inl ⟨by first | kernel_rfl | rfl, ?_⟩) (by assumption) ?_
  rotate_left
  · intro w hSw; (try dsimp only at hSw); (try go_split_ands); go_simp; first | done | with_reducible rfl
  try simp only [Act.put, List.getElem_toArray, List.getElem_cons_succ, List.getElem_cons_zero, List.setIfInBounds_toArray, List.set_cons_zero, List.set_cons_succ]
  refine wpAnyH_take (i := 23) (v := ?_) rfl (by kernel_rfl) (by kernel_rfl) (by kernel_rfl) (fun _ _ _ h => h) (Or.inl ⟨by first | kernel_rfl | rfl, ?_⟩) (by assumption) ?_
  rotate_left
  · intro w hSw; (try dsimp only at hSw); (try go_split_ands); go_simp; first | done | with_reducible rfl
  try simp only [Act.put, List.getElem_toArray, List.getElem_cons_succ, List.getElem_cons_zero, List.setIfInBounds_toArray, List.set_cons_zero, List.set_cons_succ]
  refine wpAnyH_take (i := 24) (v := ?_) rfl (by kernel_rfl) (by kernel_rfl) (by kernel_rfl) (fun _ _ _ h => h) (Or.inl ⟨by first | kernel_rfl | rfl, ?_⟩) (by assumption) ?_
  rotate_left
  · intro w hSw; (try dsimp only at hSw); (try go_split_ands); go_simp; first | done | with_reducible rfl
  try simp only [Act.put, List.getElem_toArray, List.getElem_cons_succ, List.getElem_cons_zero, List.setIfInBounds_toArray, List.set_cons_zero, List.set_cons_succ]
  refine wpAnyH_take (i := 25) (v := ?_) rfl (by kernel_rfl) (by kernel_rfl) (by kernel_rfl) (fun _ _ _ h => h) (Or.inl ⟨by first | kernel_rfl | rfl, ?_⟩) (by assumption) ?_
  rotate_left
  · intro w hSw; (try dsimp only at hSw); (try go_split_ands); go_simp; first | done | with_reducible rfl
  try simp only [Act.put, List.getElem_toArray, List.getElem_cons_succ, List.getElem_cons_zero, List.setIfInBounds_toArray, List.set_cons_zero, List.set_cons_succ]
  refine wpAnyH_ready (rs := [22]) (by kernel_rfl) (by simp) ?_
  refine AllReadyH.cons rfl (fun K hK => ?_) AllReadyH.nil
  go_simp
  go_at_call 102
  refine Calls.mono (show Calls _ _ #[_, .int .i64 1] _ _ from L9.headL (c := 1) (by omega) HH.out.2.2.2.2.1) ?_
  rintro e w10 ⟨rfl, L10⟩
  clear x0 x1 z0
  obtain ⟨x0, x1, z0⟩ := hrow2 L10.know
  clear L9
  go_wp2_with fail
  refine hK.out _ _ ?_ (fun hHeld => ?_)
  · exact ⟨x1, z0⟩
  clear hK K
  try simp only [Act.put, List.getElem_toArray, List.getElem_cons_succ, List.getElem_cons_zero, List.setIfInBounds_toArray, List.set_cons_zero, List.set_cons_succ]
  refine wpAnyH_take (i := 26) (v := ?_) rfl (by kernel_rfl) (by kernel_rfl) (by kernel_rfl) (fun _ _ _ h => h) (Or.inl ⟨by first | kernel_rfl | rfl, ?_⟩) (by assumption) ?_
  rotate_left
  · intro w hSw; (try dsimp only at hSw); (try go_split_ands); go_simp; first | done | with_reducible rfl
  try simp only [Act.put, List.getElem_toArray, List.getElem_cons_succ, List.getElem_cons_zero, List.setIfInBounds_toArray, List.set_cons_zero, List.set_cons_succ]
  refine wpAnyH_take (i := 27) (v := ?_) rfl (by kernel_rfl) (by kernel_rfl) (by kernel_rfl) (fun _ _ _ h => h) (Or.inl ⟨by first | kernel_rfl | rfl, ?_⟩) (by assumption) ?_
  rotate_left
  · intro w hSw; (try dsimp only at hSw); (try go_split_ands); go_simp; first | done | with_reducible rfl
  try simp only [Act.put, List.getElem_toArray, List.getElem_cons_succ, List.getElem_cons_zero, List.setIfInBounds_toArray, List.set_cons_zero, List.set_cons_succ]
  refine wpAnyH_take (i := 28) (v := ?_) rfl (by kernel_rfl) (by kernel_rfl) (by kernel_rfl) (fun _ _ _ h => h) (Or.inl ⟨by first | kernel_rfl | rfl, ?_⟩) (by assumption) ?_
  rotate_left
  · intro w hSw; (try dsimp only at hSw); (try go_split_ands); go_simp; first | done | with_reducible rfl
  try simp only [Act.put, List.getElem_toArray, List.getElem_cons_succ, List.getElem_cons_zero, List.setIfInBounds_toArray, List.set_cons_zero, List.set_cons_succ]
  refine wpAnyH_take (i := 29) (v := ?_) rfl (by kernel_rfl) (by kernel_rfl) (by kernel_rfl) (fun _ _ _ h => h) (Or.inl ⟨by first | kernel_rfl | rfl, ?_⟩) (by assumption) ?_
  rotate_left
  · intro w hSw; (try dsimp only at hSw); (try go_split_ands); go_simp; first | done | with_reducible rfl
  try simp only [Act.put, List.getElem_toArray, List.getElem_cons_succ, List.getElem_cons_zero, List.setIfInBounds_toArray, List.set_cons_zero, List.set_cons_succ]
  have H11 := L10.checkL (1 : Int) (A := none) (n := 0) (cA := 0) (l := []) (S := fun _ => True) Row.empty rfl (by simp) (by omega)
  rw [show chkB g (1 : Int) [] = false from HH.out.2.2.2.2.2] at H11
  refine wpAnyH_ready (rs := [30]) (by kernel_rfl) (by simp) ?_
  refine AllReadyH.cons rfl (fun K hK => ?_) AllReadyH.nil
  go_simp
  go_at_call 109
  refine Calls.mono (show Calls _ _ #[_, .int .i64 1, .slice none 0 0] _ _ from H11) ?_
  rintro e w11 ⟨rfl, L11⟩
  clear x0 x1 z0 H11
  obtain ⟨x0, x1, z0⟩ := hrow2 L11.know
  clear L10
  go_wp2_with fail
  refine hK.out _ _ ?_ (fun hHeld => ?_)
  · exact ⟨x1, z0⟩
  clear hK K
  try simp only [Act.put, List.getElem_toArray, List.getElem_cons_succ, List.getElem_cons_zero, List.setIfInBounds_toArray, List.set_cons_zero, List.set_cons_succ]
  refine wpAnyH_take (i := 31) (v := ?_) rfl (by kernel_rfl) (by kernel_rfl) (by kernel_rfl) (fun _ _ _ h => h) (Or.inl ⟨by first | kernel_rfl | rfl, ?_⟩) (by assumption) ?_
  rotate_left
  · intro w hSw; (try dsimp only at hSw); (try go_split_ands); go_simp; first | done | with_reducible rfl
  try simp only [Act.put, List.getElem_toArray, List.getElem_cons_succ, List.getElem_cons_zero, List.setIfInBounds_toArray, List.set_cons_zero, List.set_cons_succ]
  refine wpAnyH_take (i := 32) (v := ?_) rfl (by kernel_rfl) (by kernel_rfl) (by kernel_rfl) (fun _ _ _ h => h) (Or.inl ⟨by first | kernel_rfl | rfl, ?_⟩) (by assumption) ?_
  rotate_left
  · intro w hSw; (try dsimp only at hSw); (try go_split_ands); go_simp; first | done | with_reducible rfl
  try simp only [Act.put, List.getElem_toArray, List.getElem_cons_succ, List.getElem_cons_zero, List.setIfInBounds_toArray, List.set_cons_zero, List.set_cons_succ]
  refine wpAnyH_take (i := 33) (v := ?_) rfl (by kernel_rfl) (by kernel_rfl) (by kernel_rfl) (fun _ _ _ h => h) (Or.inl ⟨by first | kernel_rfl | rfl, ?_⟩) (by assumption) ?_
  rotate_left
  · intro w hSw; (try dsimp only at hSw); (try go_split_ands); go_simp; first | done | with_reducible rfl
  try simp only [Act.put, List.getElem_toArray, List.getElem_cons_succ, List.getElem_cons_zero, List.setIfInBounds_toArray, List.set_cons_zero]
  refine wpAnyH_done (by kernel_rfl) ?_ _
  refine NoPanic.normal ?_
  clear x0 x1 z0
  have hg := L11.done
  clear L11 HH hrow2
  go_wp2
  go_ret
  exact ⟨rfl, hg⟩
end Go.Proofs.Ck
