/- A part of the proofs of this seat's laws. -/
import Derived.Test.YtpakfelekphbmaaRdiff
namespace Go.Proofs.Ck
open Go Go.RowKit

theorem get_ne_left {a b : List Nat} {k : Nat} (h : ¬ k < a.length) (h' : k < b.length) : a[k]? ≠ b[k]? := by
  rw [List.getElem?_eq_none (by omega), List.getElem?_eq_getElem h']; simp
theorem get_ne_right {a b : List Nat} {k : Nat} (h : k < a.length) (h' : ¬ k < b.length) : a[k]? ≠ b[k]? := (get_ne_left h' h).symm
theorem get_eq_both {a b : List Nat} {k : Nat} (h : k < a.length) (h' : k < b.length) : a[k]? = b[k]? ↔ a.getD k 0 = b.getD k 0 := by
  rw [List.getD_eq_getElem?_getD, List.getD_eq_getElem?_getD, List.getElem?_eq_getElem h, List.getElem?_eq_getElem h']; simp

set_option maxRecDepth 100000 in
set_option maxHeartbeats 4000000 in
theorem rdiff {S S' : Nat → Prop} {w : World} {A0 A1 : Option Addr} {c0 c1 : Nat} {W0 W1 : List Nat} (h0 : Nums S w A0 W0) (h1 : Nums S' w A1 W1) (n0 : W0.length ≤ 17592186043904) (n1 : W1.length ≤ 17592186043904) :
    Calls Try.prog 49 #[.slice A0 W0.length c0, .slice A1 W1.length c1] w fun e w' => (∃ A c, e = .returned (.slice A (diffs W0 W1 (max W0.length W1.length)).length c) ∧ Nums (fun b => w.heap.size ≤ b) w' A (diffs W0 W1 (max W0.length W1.length))) ∧ Grow w w' := by
  obtain ⟨i22, hi, hz, hs, hb⟩ := info_parts info22
  obtain ⟨N, hN⟩ : ∃ N, N = max W0.length W1.length := ⟨_, rfl⟩
  have hNs : N ≤ 17592186043904 := by omega
  have hN0 : W0.length ≤ N := by omega
  have hN1 : W1.length ≤ N := by omega
  have hNc : ∀ k, k < N → ¬ k < W0.length → k < W1.length := by omega
  rw [← hN]
  have HNc := Lib.hid hNc
  clear hN hNc
  go_enter Try.func49, Try.ntmps49
  go_wp2
  go_loopw [5, 6] (fun l i wr => ∃ k : Nat, k ≤ N ∧ i = .int .i64 (k : Int) ∧ wr.ownsRow w.heap.size 22 1 l (diffs W0 W1 k).length (u64s (diffs W0 W1 k)) ∧ Grow w wr) (fun _ i _ => N - (intOf i).toNat)
  case atStart => exact ⟨0, Nat.zero_le _, rfl, World.ownsRow_nil _ _ _ _, Below.refl _ _⟩
  case round =>
    obtain ⟨k, hk, rfl, hown, hg⟩ := hrel
    have hgz := hg.size
    have hdl := diffs_len W0 W1 k
    by_cases hlt : k < N
    · by_cases h0l : k < W0.length
      · have g0 : decide ((k : Int) < W0.length) = true := decide_eq_true (by omega)
        have g0' : decide ((W0.length : Int) ≤ k) = false := decide_eq_false (by omega)
        by_cases h1l : k < W1.length
        · have g1' : decide ((W1.length : Int) ≤ k) = false := decide_eq_false (by omega)
          obtain ⟨b, o, rfl, _, hc⟩ := (h0.grow hg).pos (by omega) (by omega)
          obtain ⟨b', o', rfl, _, hc'⟩ := (h1.grow hg).pos (by omega) (by omega)
          have hx := hc k _ (u64s_get h0l)
          have hx' := hc' k _ (u64s_get h1l)
          have hiff := get_eq_both h0l h1l
          clear hc hc' h0 h1
          by_cases he : W0.getD k 0 = W1.getD k 0
          · have hd := hiff.2 he
            rw [← he] at hx'
            generalize W0.getD k 0 = V at hx hx'
            have HD := Lib.hid hd
            clear he hd hiff
            have t2 : ((V : Int) != V) = false := by simp
            go_wp2
            go_quiet (fail)
            go_wp2
            go_roundw
            case rel => exact ⟨k + 1, by omega, by go_num, by rw [diffs_miss HD.out]; exact own_grow hown (below_drewN (Below.refl _ _) nq), hg.drewN nq⟩
            case measure => simp [intOf]; omega
          · have hd : W0[k]? ≠ W1[k]? := fun e => he (hiff.1 e)
            clear hiff
            generalize W0.getD k 0 = V at hx he
            generalize W1.getD k 0 = V' at hx' he
            have t1 : ((V : Int) == V') = false := by rw [beq_eq_false_iff_ne]; omega
            have t2 : ((V : Int) != V') = true := by rw [bne_iff_ne]; omega
            clear he
            go_wp2
            go_quiet (fail)
            have hg2 := hg.drewN nq
            have hown2 := own_grow hown (below_drewN (Below.refl _ _) nq)
            have hgz2 := hg2.size
            clear hown hg
            generalize wr.drewN nq = w2 at hg2 hown2 hgz2 ⊢
            go_wp2_with (at_builtin; refine wpList_push w2 rfl (.tmp 40) (.tmp 44) 27 rfl w.heap.size 22 i22 (.int .u64 0) 1 8 Try.underlying27 hi hz hs hb rfl (by decide) _ (diffs W0 W1 k).length _ rfl hown2 #[.int .u64 (8 * (k : Int))] rfl rfl (by simp [Value.oneCell']) rfl (by unfold maxLen; omega) (by omega) (by omega) ?_)
            intro v' w3 hown' ho
            have hg3 := grow_own hg2 hown2 ho
            clear hown2 ho
            go_wp2
            go_roundw
            case rel => exact ⟨k + 1, by omega, by go_num, by rw [diffs_hit hd, u64s_append, List.length_append]; exact hown', hg3⟩
            case measure => simp [intOf]; omega
        · have g1' : decide ((W1.length : Int) ≤ k) = true := decide_eq_true (by omega)
          have hd := get_ne_right h0l h1l
          clear h0 h1
          go_wp2
          go_quiet (fail)
          have hg2 := hg.drewN nq
          have hown2 := own_grow hown (below_drewN (Below.refl _ _) nq)
          have hgz2 := hg2.size
          clear hown hg
          generalize wr.drewN nq = w2 at hg2 hown2 hgz2 ⊢
          go_wp2_with (at_builtin; refine wpList_push w2 rfl (.tmp 40) (.tmp 44) 27 rfl w.heap.size 22 i22 (.int .u64 0) 1 8 Try.underlying27 hi hz hs hb rfl (by decide) _ (diffs W0 W1 k).length _ rfl hown2 #[.int .u64 (8 * (k : Int))] rfl rfl (by simp [Value.oneCell']) rfl (by unfold maxLen; omega) (by omega) (by omega) ?_)
          intro v' w3 hown' ho
          have hg3 := grow_own hg2 hown2 ho
          clear hown2 ho
          go_wp2
          go_roundw
          case rel => exact ⟨k + 1, by omega, by go_num, by rw [diffs_hit hd, u64s_append, List.length_append]; exact hown', hg3⟩
          case measure => simp [intOf]; omega
      · have h1l := HNc.out k hlt h0l
        have g0 : decide ((k : Int) < W0.length) = false := decide_eq_false (by omega)
        have g0' : decide ((W0.length : Int) ≤ k) = true := decide_eq_true (by omega)
        have g0n : decide (W0.length ≤ k) = true := decide_eq_true (by omega)
        have g0m : W0.length ≤ k := by omega
        have g1 : decide ((k : Int) < W1.length) = true := decide_eq_true (by omega)
        have hd := get_ne_left h0l h1l
        clear h0 h1
        go_wp2
        go_quiet (fail)
        have hg2 := hg.drewN nq
        have hown2 := own_grow hown (below_drewN (Below.refl _ _) nq)
        have hgz2 := hg2.size
        clear hown hg
        generalize wr.drewN nq = w2 at hg2 hown2 hgz2 ⊢
        go_wp2_with (at_builtin; refine wpList_push w2 rfl (.tmp 40) (.tmp 44) 27 rfl w.heap.size 22 i22 (.int .u64 0) 1 8 Try.underlying27 hi hz hs hb rfl (by decide) _ (diffs W0 W1 k).length _ rfl hown2 #[.int .u64 (8 * (k : Int))] rfl rfl (by simp [Value.oneCell']) rfl (by unfold maxLen; omega) (by omega) (by omega) ?_)
        intro v' w3 hown' ho
        have hg3 := grow_own hg2 hown2 ho
        clear hown2 ho
        go_wp2
        go_roundw
        case rel => exact ⟨k + 1, by omega, by go_num, by rw [diffs_hit hd, u64s_append, List.length_append]; exact hown', hg3⟩
        case measure => simp [intOf]; omega
    · obtain rfl : k = N := by omega
      have g0 : decide ((k : Int) < W0.length) = false := decide_eq_false (by omega)
      have g1 : decide ((k : Int) < W1.length) = false := decide_eq_false (by omega)
      obtain ⟨A', c', hv, _, _, hrow⟩ := Row.of_own hown
      subst hv
      clear hown
      go_wp2
      go_ret
      exact ⟨⟨A', c', rfl, hrow⟩, hg⟩

end Go.Proofs.Ck
