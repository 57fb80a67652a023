/- A part of the proofs of this seat's laws. -/
import Derived.Test.YtpakfelekphbmaaAny
namespace Go.Proofs.Ck
open Go Go.RowKit

set_option maxRecDepth 100000 in
set_option maxHeartbeats 2000000 in
theorem sdiff {w : World} {v0 v1 : Value} {W0 W1 : List Nat} (h0 : SegLike w v0 W0) (h1 : SegLike w v1 W1) :
    Calls Try.prog 48 #[v0, v1] w fun e w' => (∃ A c, e = .returned (.slice A (diffs W0 W1 (max W0.length W1.length)).length c) ∧ Nums (fun b => w.heap.size ≤ b) w' A (diffs W0 W1 (max W0.length W1.length))) ∧ Grow w w' := by
  obtain ⟨i22, hi, hz, hs, hb⟩ := info_parts info22
  have s0 := h0.small
  have s1 := h1.small
  obtain ⟨N, hN⟩ : ∃ N, N = max W0.length W1.length := ⟨_, rfl⟩
  have hNs : N ≤ 17592186043904 := by omega
  rw [← hN]
  by_cases hw : W0.length < W1.length
  all_goals
    have hN1 : N ≤ (if W0.length < W1.length then W1.length else W0.length) := by split <;> omega
    have hN2 : (if W0.length < W1.length then W1.length else W0.length) ≤ N := by split <;> omega
    simp only [hw, if_true, if_false] at hN1 hN2
    clear hN
    go_enter Try.func48, Try.ntmps48
    go_wp2
    go_loopw [5, 6] (fun l i wr => ∃ k : Nat, k ≤ N ∧ i = .int .u64 (8 * (k : Int)) ∧ wr.ownsRow w.heap.size 22 1 l (diffs W0 W1 k).length (u64s (diffs W0 W1 k)) ∧ Grow w wr) (fun _ i _ => 8 * N - (intOf i).toNat)
    case atStart => exact ⟨0, Nat.zero_le _, rfl, World.ownsRow_nil _ _ _ _, Below.refl _ _⟩
    case round =>
      obtain ⟨k, hk, rfl, hown, hg⟩ := hrel
      have hgz := hg.size
      have hdl := diffs_len W0 W1 k
      by_cases hlt : k < N
      · have L0 := fun (w : World) (h : SegLike w v0 W0) => load_any h k (by omega)
        have L1 := fun (w : World) (h : SegLike w v1 W1) => load_any h k (by omega)
        have b0 := told_le W0 k
        have b1 := told_le W1 k
        by_cases hd : W0[k]? = W1[k]?
        · have ht := told_eq.2 hd
          rw [← ht] at L1
          generalize (told W0 k).1 = x at L0 L1
          generalize (told W0 k).2 = z at L0 L1 b0
          have HL0 := Lib.hid L0; have HL1 := Lib.hid L1
          have HD := Lib.hid hd
          clear L0 L1 hd ht b1
          go_wp2_with fail
          refine (size_any (h0.grow hg)).mono ?_
          rintro e w' ⟨rfl, rfl⟩
          go_wp2_with fail
          refine (size_any (h1.grow hg)).mono ?_
          rintro e w' ⟨rfl, rfl⟩
          go_wp2_with fail
          refine (HL0.out _ (h0.grow hg)).mono ?_
          rintro e w1 ⟨rfl, hg1⟩
          go_wp2_with fail
          refine (HL1.out _ ((h1.grow hg).grow hg1)).mono ?_
          rintro e w2 ⟨rfl, hg2⟩
          have hgw : Grow w w2 := (hg.trans hg1).trans hg2
          have hown2 := own_grow hown (hg1.trans hg2)
          have hgz2 := hgw.size
          clear hown hg1 hg2 hg HL0 HL1 h0 h1
          have t1 : ((z : Int) == z) = true := by simp
          have t2 : ((x : Int) == x) = true := by simp
          go_wp2
          go_roundw
          case rel => exact ⟨k + 1, by omega, by go_num, by rw [diffs_miss HD.out]; exact hown2, hgw⟩
          case measure => simp [intOf]; omega
        · have ht : told W0 k ≠ told W1 k := fun e => hd (told_eq.1 e)
          have ht' : (told W0 k).2 ≠ (told W1 k).2 ∨ ((told W0 k).2 = (told W1 k).2 ∧ (told W0 k).1 ≠ (told W1 k).1) := by
            by_cases e : (told W0 k).2 = (told W1 k).2
            · exact .inr ⟨e, fun e2 => ht (Prod.ext e2 e)⟩
            · exact .inl e
          clear ht
          generalize (told W0 k).1 = x0 at L0 ht'
          generalize (told W0 k).2 = z0 at L0 b0 ht'
          generalize (told W1 k).1 = x1 at L1 ht'
          generalize (told W1 k).2 = z1 at L1 b1 ht'
          have HL0 := Lib.hid L0; have HL1 := Lib.hid L1
          clear L0 L1
          rcases ht' with ht' | ⟨rfl, ht'⟩
          · have t1 : ((z0 : Int) == z1) = false := by rw [beq_eq_false_iff_ne]; omega
            have t1' : ((z0 : Int) != z1) = true := by rw [bne_iff_ne]; omega
            go_wp2_with fail
            refine (size_any (h0.grow hg)).mono ?_
            rintro e w' ⟨rfl, rfl⟩
            go_wp2_with fail
            refine (size_any (h1.grow hg)).mono ?_
            rintro e w' ⟨rfl, rfl⟩
            go_wp2_with fail
            refine (HL0.out _ (h0.grow hg)).mono ?_
            rintro e w1 ⟨rfl, hg1⟩
            go_wp2_with fail
            refine (HL1.out _ ((h1.grow hg).grow hg1)).mono ?_
            rintro e w2 ⟨rfl, hg2⟩
            have hgw : Grow w w2 := (hg.trans hg1).trans hg2
            have hown2 := own_grow hown (hg1.trans hg2)
            have hgz2 := hgw.size
            clear hown hg1 hg2 hg HL0 HL1 h0 h1
            go_wp2_with (at_builtin; refine wpList_push w2 rfl (.tmp 40) (.tmp 42) 27 rfl w.heap.size 22 i22 (.int .u64 0) 1 8 Try.underlying27 hi hz hs hb rfl (by decide) _ (diffs W0 W1 k).length _ rfl hown2 #[.int .u64 (8 * (k : Int))] rfl rfl (by simp [Value.oneCell']) rfl (by unfold maxLen; omega) (by omega) (by omega) ?_)
            all_goals
              intro v' w3 hown' ho
              have hg3 := grow_own hgw hown2 ho
              clear hown2 ho
              go_wp2
              go_roundw
              case rel => exact ⟨k + 1, by omega, by go_num, by rw [diffs_hit hd, u64s_append, List.length_append]; exact hown', hg3⟩
              case measure => simp [intOf]; omega
          · have t1 : ((z0 : Int) == z0) = true := by simp
            have t2 : ((x0 : Int) == x1) = false := by rw [beq_eq_false_iff_ne]; omega
            have t2' : ((x0 : Int) != x1) = true := by rw [bne_iff_ne]; omega
            go_wp2_with fail
            refine (size_any (h0.grow hg)).mono ?_
            rintro e w' ⟨rfl, rfl⟩
            go_wp2_with fail
            refine (size_any (h1.grow hg)).mono ?_
            rintro e w' ⟨rfl, rfl⟩
            go_wp2_with fail
            refine (HL0.out _ (h0.grow hg)).mono ?_
            rintro e w1 ⟨rfl, hg1⟩
            go_wp2_with fail
            refine (HL1.out _ ((h1.grow hg).grow hg1)).mono ?_
            rintro e w2 ⟨rfl, hg2⟩
            have hgw : Grow w w2 := (hg.trans hg1).trans hg2
            have hown2 := own_grow hown (hg1.trans hg2)
            have hgz2 := hgw.size
            clear hown hg1 hg2 hg HL0 HL1 h0 h1
            go_wp2_with (at_builtin; refine wpList_push w2 rfl (.tmp 40) (.tmp 42) 27 rfl w.heap.size 22 i22 (.int .u64 0) 1 8 Try.underlying27 hi hz hs hb rfl (by decide) _ (diffs W0 W1 k).length _ rfl hown2 #[.int .u64 (8 * (k : Int))] rfl rfl (by simp [Value.oneCell']) rfl (by unfold maxLen; omega) (by omega) (by omega) ?_)
            all_goals
              intro v' w3 hown' ho
              have hg3 := grow_own hgw hown2 ho
              clear hown2 ho
              go_wp2
              go_roundw
              case rel => exact ⟨k + 1, by omega, by go_num, by rw [diffs_hit hd, u64s_append, List.length_append]; exact hown', hg3⟩
              case measure => simp [intOf]; omega
      · obtain rfl : k = N := by omega
        go_wp2_with fail
        refine (size_any (h0.grow hg)).mono ?_
        rintro e w' ⟨rfl, rfl⟩
        go_wp2_with fail
        refine (size_any (h1.grow hg)).mono ?_
        rintro e w' ⟨rfl, rfl⟩
        obtain ⟨A', c', hv, _, _, hrow⟩ := Row.of_own hown
        subst hv
        clear hown
        go_wp2
        go_ret
        exact ⟨⟨A', c', rfl, hrow⟩, hg⟩

end Go.Proofs.Ck
