/- LedgerPlays: the walk. -/
import Derived.Test.YtpakfelekphbmaaGLl
import Derived.Test.YtpakfelekphbmaaAwake09
import Derived.Test.YtpakfelekphbmaaGSeg
namespace Go.Proofs.Ck
open Go Go.RowKit

set_option maxRecDepth 100000 in
set_option maxHeartbeats 4000000 in
theorem ledgerPlays {w : World} {D1 D2 : Option Addr} {m1 m2 : Nat} {l1 : List (Nat × Nat × Nat)} {l2 : List (Nat × Nat)} (hD1 : Row (fun b => b < w.heap.size) w D1 l1.length 3 (pcs l1)) (hcap : l1.length ≤ m1) (hl1 : l1.length ≤ 9223372036854775807)
    (hb1 : ∀ q ∈ l1, q.1 < 256 ∧ q.2.1 < 256 ∧ q.2.2 < 65536) (hD2 : Row (fun b => b < w.heap.size) w D2 l2.length 2 (stps l2)) (hl2 : l2.length ≤ 9223372036854775807) (hb2 : ∀ q ∈ l2, q.1 < 256 ∧ q.2 < 256) :
    Calls Try.prog 31 #[.slice D1 l1.length m1, .slice D2 l2.length m2] w fun e w' => e = .returned (.bool true) ∧ Grow w w' := by
  have al : Try.prog.arrayLen 122 = 8 := by kernel_rfl
  go_enter Try.func31, Try.ntmps31
  go_wp2_with fail
  refine (awake09 w).mono ?_
  rintro e w1 ⟨rfl, hg⟩
  have hlaid := laid_call (w0 := w) (K0 := fun w X => Row (fun b => ¬ X b) w D2 l2.length 2 (stps l2)) hg ((hD1.grow hg).mono fun b hb _ => hb) hcap hl1 hb1 stable_row ((hD2.grow hg).mono fun b hb hh => by have := hg.size; omega)
  obtain ⟨hled, hne, -, h21⟩ := laid_led l1
  unfold LaidP at hlaid
  generalize (laidS l1).load = f at hlaid hled
  generalize atsL l1 = all at hlaid hled hne h21
  clear hD1 hD2 hb1 hl1 hg
  go_wp2_with fail
  refine hlaid.mono ?_
  rintro e w2 ⟨base, p, A, cA, rfl, L2⟩
  clear hlaid
  have hpl := played_L (cA := cA) (m := m2) L2 stable_row rfl hne h21 hled (fun w X h => h) hb2 hl2
  have hledk := hled.steps hne (l2.take 40)
  generalize stepsF all f (fun _ => []) (l2.take 40) = F at hpl hledk
  generalize stepsL all (fun _ => []) (l2.take 40) = Ls at hpl hledk
  clear L2 hb2 hl2 hled
  go_wp2_with fail
  refine hpl.mono ?_
  rintro e w3 ⟨cs, rfl, hcs, L3⟩
  have hone : cs.all (·.oneCell') = true := by
    obtain ⟨X, hX, -⟩ := L3.know
    rw [Array.all_eq_true]
    intro i hi
    obtain ⟨v, hv, A, c, rfl, -⟩ := hX i (by omega)
    rw [Array.getElem?_eq_getElem hi, Option.some.injEq] at hv
    rw [hv]
    rfl
  have L4 := L3.alloc #[.slice none 0 0, .slice none 0 0, .slice none 0 0, .slice none 0 0, .slice none 0 0, .slice none 0 0, .slice none 0 0, .slice none 0 0] 122
  have hbx := L4.box (List.mem_cons_self ..)
  have L5 := L4.setRow cs
  clear L3 L4
  go_wp2_with (refine wpList_store_row rfl 122 (.tmp 8) (.tmp 22) rfl w3.heap.size cs rfl rfl 122 _ hbx (info122.trans (by rw [hcs])) (by rw [hcs]; rfl) hone ?_)
  generalize (w3.alloc (Obj.cells #[.slice none 0 0, .slice none 0 0, .slice none 0 0, .slice none 0 0, .slice none 0 0, .slice none 0 0, .slice none 0 0, .slice none 0 0] 122)).setRow w3.heap.size cs = w5 at *
  generalize w3.heap.size = q8 at *
  have hnp : decide ((0 : Int) < (all.length : Int)) = true := decide_eq_true (by have := List.length_pos_iff.2 hne; omega)
  have hnp2 : decide (0 < all.length) = true := decide_eq_true (List.length_pos_iff.2 hne)
  go_loopw [10] (fun i wr => ∃ d : Nat, d ≤ 8 ∧ i = .int .i64 (d : Int) ∧ Law base (fun _ => False) w wr (.pointer p) F [(q8, cs, 122)] (fun w X => Slots cs Ls w X ∧ Row (fun b => ¬ X b) w A all.length 1 (u64s all) ∧ Row (fun b => ¬ X b) w D2 l2.length 2 (stps l2))) (fun i _ => 8 - (intOf i).toNat)
  case atStart => exact ⟨0, Nat.zero_le _, rfl, L5⟩
  case round =>
    clear L5 hbx
    obtain ⟨d, hd, rfl, L6⟩ := hrel
    by_cases hlt : d < 8
    · have g0 : decide ((d : Int) < 8) = true := decide_eq_true (by omega)
      have gd : (0 : Int) ≤ (d : Int) ∧ (d : Int) < 8 := by omega
      have L7 := L6.drew
      clear L6
      obtain ⟨X, hX⟩ := L7.know
      obtain ⟨v, hv, Ad, cd, rfl, -, hr⟩ := hX.1 d hlt
      have xd := L7.cell (List.mem_cons_self ..) d
      rw [hv] at xd
      have hfew := hledk.few hlt
      have hmem : ∀ a ∈ Ls d, a < 18446744073709551616 := fun a ha => by have := hledk.mem hlt ha; omega
      have HC := L7.checkL (d : Int) (cA := cd) hr rfl hmem (by omega)
      rw [hledk.lists.told hledk.room hlt] at HC
      clear hX hr X hmem
      go_wp2
      refine region_plain (fun w' => w'.cell? ⟨q8, d, none⟩ = some (.slice Ad (Ls d).length cd)) (by kernel_rfl) xd (fun hHeld => ?_)
      refine wpAnyH_take (i := 0) (v := ?_) rfl (by kernel_rfl) (by kernel_rfl) (by kernel_rfl) (fun _ _ _ h => h) (Or.inl ⟨by first | kernel_rfl | rfl, ?_⟩) (by assumption) ?_
      rotate_left
      · intro w hSw; (try dsimp only at hSw); (try go_split_ands); go_simp; first | done | with_reducible rfl
      try simp only [Act.put, List.getElem_toArray, List.getElem_cons_zero, List.setIfInBounds_toArray, List.set_cons_zero, List.set_cons_succ]
      refine wpAnyH_take (i := 1) (v := ?_) rfl (by kernel_rfl) (by kernel_rfl) (by kernel_rfl) (fun _ _ _ h => h) (Or.inl ⟨by first | kernel_rfl | rfl, ?_⟩) (by assumption) ?_
      rotate_left
      · intro w hSw; (try dsimp only at hSw); (try go_split_ands); go_simp; first | done | with_reducible rfl
      try simp only [Act.put, List.getElem_toArray, List.getElem_cons_succ, List.getElem_cons_zero, List.setIfInBounds_toArray, List.set_cons_zero, List.set_cons_succ]
      refine wpAnyH_take (i := 2) (v := ?_) rfl (by kernel_rfl) (by kernel_rfl) (by kernel_rfl) (fun _ _ _ h => h) (Or.inl ⟨by first | kernel_rfl | rfl, ?_⟩) (by assumption) ?_
      rotate_left
      · intro w hSw; (try dsimp only at hSw); (try go_split_ands); go_simp; first | done | with_reducible rfl
      try simp only [Act.put, List.getElem_toArray, List.getElem_cons_succ, List.getElem_cons_zero, List.setIfInBounds_toArray, List.set_cons_zero, List.set_cons_succ]
      refine wpAnyH_take (i := 3) (v := ?_) rfl (by kernel_rfl) (by kernel_rfl) (by kernel_rfl) (fun _ _ _ h => h) (Or.inl ⟨by first | kernel_rfl | rfl, ?_⟩) (by assumption) ?_
      rotate_left
      · intro w hSw; (try dsimp only at hSw); (try go_split_ands); go_simp; first | done | with_reducible rfl
      try simp only [Act.put, List.getElem_toArray, List.getElem_cons_succ, List.getElem_cons_zero, List.setIfInBounds_toArray, List.set_cons_zero, List.set_cons_succ]
      refine wpAnyH_take (i := 4) (v := ?_) rfl (by kernel_rfl) (by kernel_rfl) (by kernel_rfl) (fun _ _ _ h => h) (Or.inl ⟨by first | kernel_rfl | rfl, ?_⟩) (by assumption) ?_
      rotate_left
      · intro w hSw; (try dsimp only at hSw); (try go_split_ands); go_simp; first | done | with_reducible rfl
      try simp only [Act.put, List.getElem_toArray, List.getElem_cons_succ, List.getElem_cons_zero, List.setIfInBounds_toArray, List.set_cons_zero, List.set_cons_succ]
      refine wpAnyH_ready (rs := [5]) (by kernel_rfl) (by simp) ?_
      refine AllReadyH.cons rfl (fun K hK => ?_) AllReadyH.nil
      go_simp
      go_at_call 109
      refine Calls.mono HC ?_
      rintro e w7 ⟨rfl, L8⟩
      clear HC L7 xd
      have xd := L8.cell (List.mem_cons_self ..) d
      rw [hv] at xd
      go_wp2_with fail
      refine hK.out _ _ ?_ (fun hHeld => ?_)
      · exact xd
      clear hK K
      try simp only [Act.put, List.getElem_toArray, List.getElem_cons_succ, List.getElem_cons_zero, List.setIfInBounds_toArray, List.set_cons_zero, List.set_cons_succ]
      refine wpAnyH_take (i := 6) (v := ?_) rfl (by kernel_rfl) (by kernel_rfl) (by kernel_rfl) (fun _ _ _ h => h) (Or.inl ⟨by first | kernel_rfl | rfl, ?_⟩) (by assumption) ?_
      rotate_left
      · intro w hSw; (try dsimp only at hSw); (try go_split_ands); go_simp; first | done | with_reducible rfl
      try simp only [Act.put, List.getElem_toArray, List.getElem_cons_succ, List.getElem_cons_zero, List.setIfInBounds_toArray, List.set_cons_zero, List.set_cons_succ]
      refine wpAnyH_take (i := 7) (v := ?_) rfl (by kernel_rfl) (by kernel_rfl) (by kernel_rfl) (fun _ _ _ h => h) (Or.inl ⟨by first | kernel_rfl | rfl, ?_⟩) (by assumption) ?_
      rotate_left
      · intro w hSw; (try dsimp only at hSw); (try go_split_ands); go_simp; first | done | with_reducible rfl
      try simp only [Act.put, List.getElem_toArray, List.getElem_cons_succ, List.getElem_cons_zero, List.setIfInBounds_toArray, List.set_cons_zero, List.set_cons_succ]
      refine wpAnyH_take (i := 8) (v := ?_) rfl (by kernel_rfl) (by kernel_rfl) (by kernel_rfl) (fun _ _ _ h => h) (Or.inl ⟨by first | kernel_rfl | rfl, ?_⟩) (by assumption) ?_
      rotate_left
      · intro w hSw; (try dsimp only at hSw); (try go_split_ands); go_simp; first | done | with_reducible rfl
      try simp only [Act.put, List.getElem_toArray, List.getElem_cons_succ, List.getElem_cons_zero, List.setIfInBounds_toArray, List.set_cons_zero, List.set_cons_succ]
      refine wpAnyH_take (i := 9) (v := ?_) rfl (by kernel_rfl) (by kernel_rfl) (by kernel_rfl) (fun _ _ _ h => h) (Or.inl ⟨by first | kernel_rfl | rfl, ?_⟩) (by assumption) ?_
      rotate_left
      · intro w hSw; (try dsimp only at hSw); (try go_split_ands); go_simp; first | done | with_reducible rfl
      try simp only [Act.put, List.getElem_toArray, List.getElem_cons_succ, List.getElem_cons_zero, List.setIfInBounds_toArray, List.set_cons_zero, List.set_cons_succ]
      refine wpAnyH_take (i := 11) (v := ?_) rfl (by kernel_rfl) (by kernel_rfl) (by kernel_rfl) (fun _ _ _ h => h) (Or.inl ⟨by first | kernel_rfl | rfl, ?_⟩) (by assumption) ?_
      rotate_left
      · intro w hSw; (try dsimp only at hSw); (try go_split_ands); go_simp; first | done | with_reducible rfl
      try simp only [Act.put, List.getElem_toArray, List.getElem_cons_succ, List.getElem_cons_zero, List.setIfInBounds_toArray, List.set_cons_zero, List.set_cons_succ]
      refine wpAnyH_take (i := 12) (v := ?_) rfl (by kernel_rfl) (by kernel_rfl) (by kernel_rfl) (fun _ _ _ h => h) (Or.inl ⟨by first | kernel_rfl | rfl, ?_⟩) (by assumption) ?_
      rotate_left
      · intro w hSw; (try dsimp only at hSw); (try go_split_ands); go_simp; first | done | with_reducible rfl
      try simp only [Act.put, List.getElem_toArray, List.getElem_cons_succ, List.getElem_cons_zero, List.setIfInBounds_toArray, List.set_cons_zero, List.set_cons_succ]
      refine wpAnyH_take (i := 13) (v := ?_) rfl (by kernel_rfl) (by kernel_rfl) (by kernel_rfl) (fun _ _ _ h => h) (Or.inl ⟨by first | kernel_rfl | rfl, ?_⟩) (by assumption) ?_
      rotate_left
      · intro w hSw; (try dsimp only at hSw); (try go_split_ands); go_simp; first | done | with_reducible rfl
      try simp only [Act.put, List.getElem_toArray, List.getElem_cons_succ, List.getElem_cons_zero, List.setIfInBounds_toArray, List.set_cons_zero, List.set_cons_succ]
      have HL := L8.listL hledk hlt rfl rfl
      refine wpAnyH_ready (rs := [10]) (by kernel_rfl) (by simp) ?_
      refine AllReadyH.cons rfl (fun K hK => ?_) AllReadyH.nil
      go_simp
      go_at_call 113
      refine Calls.mono HL ?_
      rintro e w8 ⟨A9, c9, rfl, L9⟩
      clear HL L8 xd
      have xd := L9.cell (List.mem_cons_self ..) d
      rw [hv] at xd
      go_wp2_with fail
      refine hK.out _ _ ?_ (fun hHeld => ?_)
      · exact xd
      clear hK K
      try simp only [Act.put, List.getElem_toArray, List.getElem_cons_succ, List.getElem_cons_zero, List.setIfInBounds_toArray, List.set_cons_zero, List.set_cons_succ]
      obtain ⟨X, hX⟩ := L9.know
      obtain ⟨v', hv', Ad', cd', e9, -, hr⟩ := hX.2.1 d hlt
      rw [hv] at hv'
      cases hv'
      cases e9
      have HN := L9.read (rnums (c0 := c9) (c1 := cd) hX.1 hr (by omega))
      rw [decide_eq_true (rfl : Ls d = Ls d)] at HN
      clear hX hr X
      refine wpAnyH_ready (rs := [14]) (by kernel_rfl) (by simp) ?_
      refine AllReadyH.cons rfl (fun K hK => ?_) AllReadyH.nil
      go_simp
      go_at_call 47
      refine Calls.mono HN ?_
      rintro e w9 ⟨rfl, L10⟩
      clear HN L9 xd
      have xd := L10.cell (List.mem_cons_self ..) d
      rw [hv] at xd
      go_wp2_with fail
      refine hK.out _ _ ?_ (fun hHeld => ?_)
      · exact xd
      clear hK K
      try simp only [Act.put, List.getElem_toArray, List.getElem_cons_succ, List.getElem_cons_zero, List.setIfInBounds_toArray, List.set_cons_zero, List.set_cons_succ]
      refine wpAnyH_take (i := 15) (v := ?_) rfl (by kernel_rfl) (by kernel_rfl) (by kernel_rfl) (fun _ _ _ h => h) (Or.inl ⟨by first | kernel_rfl | rfl, ?_⟩) (by assumption) ?_
      rotate_left
      · intro w hSw; (try dsimp only at hSw); (try go_split_ands); go_simp; first | done | with_reducible rfl
      try simp only [Act.put, List.getElem_toArray, List.getElem_cons_succ, List.getElem_cons_zero, List.setIfInBounds_toArray, List.set_cons_zero, List.set_cons_succ]
      refine wpAnyH_take (i := 16) (v := ?_) rfl (by kernel_rfl) (by kernel_rfl) (by kernel_rfl) (fun _ _ _ h => h) (Or.inl ⟨by first | kernel_rfl | rfl, ?_⟩) (by assumption) ?_
      rotate_left
      · intro w hSw; (try dsimp only at hSw); (try go_split_ands); go_simp; first | done | with_reducible rfl
      try simp only [Act.put, List.getElem_toArray, List.getElem_cons_succ, List.getElem_cons_zero, List.setIfInBounds_toArray, List.set_cons_zero, List.set_cons_succ]
      refine wpAnyH_done (by kernel_rfl) ?_ _
      refine NoPanic.normal ?_
      have L11 := L10.less (L := fun w X => Slots cs Ls w X ∧ Row (fun b => ¬ X b) w A all.length 1 (u64s all) ∧ Row (fun b => ¬ X b) w D2 l2.length 2 (stps l2)) (stable_slots.and (stable_row.and stable_row)) (fun w X h => h.2)
      clear L10 xd
      go_wp2
      go_roundw
      case rel => exact ⟨d + 1, by omega, by go_num, L11⟩
      case measure => simp [intOf]; omega
    · obtain rfl : d = 8 := by omega
      have g0 : decide (((8 : Nat) : Int) < 8) = false := decide_eq_false (by omega)
      have hg := L6.done
      clear L6 hledk
      go_wp2
      go_ret
      exact ⟨rfl, hg⟩
end Go.Proofs.Ck
