/- IntentNone: the walk. -/
import Derived.Test.YtpakfelekphbmaaIntentBack
namespace Go.Proofs.Ck
open Go Go.RowKit

set_option maxRecDepth 100000 in
set_option maxHeartbeats 4000000 in
theorem intentNone (w : World) (c : Int) (n : Nat) (hn : n < 18446744073709551616) :
    Calls Try.prog 22 #[.int .i64 c, .int .u64 (n : Int)] w fun e w' => e = .returned (.bool true) ∧ Grow w w' := by
  obtain ⟨i73, hi, hz, hs, hb⟩ := info_parts info73
  have hcb := fun w => commit_bad w c 25 (fun h => absurd h.2.2 (by omega))
  have hwb := fun w A => words_bad w A 25 25 c (.inr (by omega)) (by omega)
  by_cases hc : 0 ≤ c ∧ c < 8
  · obtain ⟨C, rfl⟩ := Int.eq_ofNat_of_zero_le hc.1
    have hC : C < 8 := by omega
    obtain ⟨o, ho⟩ : ∃ o, 64 + 416 * C + 16 = o := ⟨_, rfl⟩
    have hos : inSeg o := by unfold inSeg; omega
    rw [if_pos hc] at hwb
    have HO := Lib.hid ho
    have hrw := fun w => rword_ok w C 16 hC rfl (by omega)
    rw [ho] at hrw
    have hnil := fun w => read_ok (w := w) (v := .pointer none) (f := fun _ => 0) (.inl ⟨rfl, rfl⟩) C hC 0 rfl (by omega)
    clear ho hc
    by_cases h24 : n ≤ 24
    · have t0 : decide ((n : Int) ≤ 24) = true := decide_eq_true (by omega)
      have en : IntKind.i64.wrap (n : Int) = (n : Int) := by rw [IntKind.wrap_i64]; omega
      have t1 : ((n : Int) == n) = true := by simp
      go_enter Try.func22, Try.ntmps22
      go_wp2_with fail
      refine (awake17 w).mono ?_
      rintro e w1 ⟨rfl, hg⟩
      go_wp2_with fail
      refine (formed_K (l := []) (A := none) hg Row.empty stable_true trivial fun hl1 => formed92 (c := 0) 4480 (by unfold fits; omega) hl1 (by simp) (fun p hp => by cases hp)).mono ?_
      rintro e w2 ⟨base, p, A', n1, c', B', n2, d', rfl, L2⟩
      clear hg
      generalize fillF 4480 ([].take 60) = f at L2
      have L3 := L2.alloc #[.slice A' n1 c', .slice B' n2 d'] 67
      clear L2
      go_wp2_with (at_make; refine wpList_make_full _ rfl _ _ 64 rfl (w2.alloc (.cells #[.slice A' n1 c', .slice B' n2 d'] 67)).heap.size 73 i73 _ 2 Try.underlying64 hi hz hs .i64 .i64 _ _ 25 rfl rfl (by simp [go_sem]) (by simp [go_sem]) (by rw [hb]; omega) (by unfold maxLen; omega) (Nat.le_refl _) ?_)
      intro w4 hown hgr
      have L4 := L3.grow ((only_of_grown hgr).below (Nat.le_refl _) (fun _ h => by cases h))
      clear hown hgr L3
      go_wp2_with fail
      refine (L4.read ((hwb _ _).mono fun e w' ⟨h1, h2⟩ => ⟨h1, h2 ▸ Below.refl _ _⟩)).mono ?_
      rintro e w5 ⟨rfl, L5⟩
      clear L4
      go_wp2_with fail
      refine (L5.read (hcb _)).mono ?_
      rintro e w6 ⟨rfl, L6⟩
      clear L5
      have L7 := L6.alloc #[.int .u64 0, .int .u64 0] 73
      clear L6
      go_wp2_with fail
      generalize w6.alloc (Obj.cells #[.int .u64 0, .int .u64 0] 73) = w7 at L7 ⊢
      go_wp2_with fail
      refine (L7.read ((show Calls _ _ #[_, .int .u64 16] _ _ from hrw _).mono fun e w' ⟨h1, h2⟩ => ⟨h1, h2 ▸ Below.refl _ _⟩)).mono ?_
      rintro e w8 ⟨rfl, L8⟩
      clear L7
      go_wp2_with fail
      refine (L8.store o n hos hn).mono ?_
      rintro e w9 ⟨rfl, L9⟩
      clear L8
      go_wp2_with fail
      refine (L9.rowOf (read_ok L9.any C hC n (by rw [atN_ok hC rfl (by omega), HO.out, upd_same]) h24)).mono ?_
      rintro e w10 ⟨Ba, ma, rfl, L10⟩
      clear L9
      go_wp2_with fail
      refine (L10.rowOf (hnil _)).mono ?_
      rintro e w11 ⟨Bb, mb, rfl, L11⟩
      clear L10
      have hg := L11.done
      clear L11 hcb hwb hrw hnil
      go_wp2
      go_ret
      exact ⟨rfl, hg⟩
    · have t0 : decide ((n : Int) ≤ 24) = false := decide_eq_false (by omega)
      go_enter Try.func22, Try.ntmps22
      go_wp2_with fail
      refine (awake17 w).mono ?_
      rintro e w1 ⟨rfl, hg⟩
      go_wp2_with fail
      refine (formed_K (l := []) (A := none) hg Row.empty stable_true trivial fun hl1 => formed92 (c := 0) 4480 (by unfold fits; omega) hl1 (by simp) (fun p hp => by cases hp)).mono ?_
      rintro e w2 ⟨base, p, A', n1, c', B', n2, d', rfl, L2⟩
      clear hg
      generalize fillF 4480 ([].take 60) = f at L2
      have L3 := L2.alloc #[.slice A' n1 c', .slice B' n2 d'] 67
      clear L2
      go_wp2_with (at_make; refine wpList_make_full _ rfl _ _ 64 rfl (w2.alloc (.cells #[.slice A' n1 c', .slice B' n2 d'] 67)).heap.size 73 i73 _ 2 Try.underlying64 hi hz hs .i64 .i64 _ _ 25 rfl rfl (by simp [go_sem]) (by simp [go_sem]) (by rw [hb]; omega) (by unfold maxLen; omega) (Nat.le_refl _) ?_)
      intro w4 hown hgr
      have L4 := L3.grow ((only_of_grown hgr).below (Nat.le_refl _) (fun _ h => by cases h))
      clear hown hgr L3
      go_wp2_with fail
      refine (L4.read ((hwb _ _).mono fun e w' ⟨h1, h2⟩ => ⟨h1, h2 ▸ Below.refl _ _⟩)).mono ?_
      rintro e w5 ⟨rfl, L5⟩
      clear L4
      go_wp2_with fail
      refine (L5.read (hcb _)).mono ?_
      rintro e w6 ⟨rfl, L6⟩
      clear L5
      have L7 := L6.alloc #[.int .u64 0, .int .u64 0] 73
      clear L6
      go_wp2_with fail
      generalize w6.alloc (Obj.cells #[.int .u64 0, .int .u64 0] 73) = w7 at L7 ⊢
      go_wp2_with fail
      refine (L7.read ((show Calls _ _ #[_, .int .u64 16] _ _ from hrw _).mono fun e w' ⟨h1, h2⟩ => ⟨h1, h2 ▸ Below.refl _ _⟩)).mono ?_
      rintro e w8 ⟨rfl, L8⟩
      clear L7
      go_wp2_with fail
      refine (L8.store o n hos hn).mono ?_
      rintro e w9 ⟨rfl, L9⟩
      clear L8
      go_wp2_with fail
      refine (L9.read (read_nil L9.any C n (by rw [atN_ok hC rfl (by omega), HO.out, upd_same]) (.inr (by omega)))).mono ?_
      rintro e w10 ⟨rfl, L10⟩
      clear L9
      go_wp2_with fail
      refine (L10.rowOf (hnil _)).mono ?_
      rintro e w11 ⟨Bb, mb, rfl, L11⟩
      clear L10
      have hg := L11.done
      clear L11 hcb hwb hrw hnil
      go_wp2
      go_ret
      exact ⟨rfl, hg⟩
  · rw [if_neg hc] at hwb
    have hcb0 := fun w => commit_bad w c 0 (fun h => hc h.1)
    have hcl := clear17 hcb0
    have hrw := fun w => rword_bad w c 16 (fun hh => hc ⟨hh.1, hh.2.1⟩)
    have hrd := fun (w : World) (v : Value) (f : Nat → Nat) (h : TxAny w v f) => read_nil h c _ rfl (.inl hc)
    clear hcb0 hc
    go_enter Try.func22, Try.ntmps22
    go_wp2_with fail
    refine (awake17 w).mono ?_
    rintro e w1 ⟨rfl, hg⟩
    go_wp2_with fail
    refine (formed_K (l := []) (A := none) hg Row.empty stable_true trivial fun hl1 => formed92 (c := 0) 4480 (by unfold fits; omega) hl1 (by simp) (fun p hp => by cases hp)).mono ?_
    rintro e w2 ⟨base, p, A', n1, c', B', n2, d', rfl, L2⟩
    clear hg
    generalize fillF 4480 ([].take 60) = f at L2
    have L3 := L2.alloc #[.slice A' n1 c', .slice B' n2 d'] 67
    clear L2
    go_wp2_with (at_make; refine wpList_make_full _ rfl _ _ 64 rfl (w2.alloc (.cells #[.slice A' n1 c', .slice B' n2 d'] 67)).heap.size 73 i73 _ 2 Try.underlying64 hi hz hs .i64 .i64 _ _ 25 rfl rfl (by simp [go_sem]) (by simp [go_sem]) (by rw [hb]; omega) (by unfold maxLen; omega) (Nat.le_refl _) ?_)
    intro w4 hown hgr
    have L4 := L3.grow ((only_of_grown hgr).below (Nat.le_refl _) (fun _ h => by cases h))
    clear hown hgr L3
    go_wp2_with fail
    refine (L4.read ((hwb _ _).mono fun e w' ⟨h1, h2⟩ => ⟨h1, h2 ▸ Below.refl _ _⟩)).mono ?_
    rintro e w5 ⟨rfl, L5⟩
    clear L4
    go_wp2_with fail
    refine (L5.read (hcb _)).mono ?_
    rintro e w6 ⟨rfl, L6⟩
    clear L5
    have L7 := L6.alloc #[.int .u64 0, .int .u64 0] 73
    clear L6
    go_wp2_with fail
    generalize w6.alloc (Obj.cells #[.int .u64 0, .int .u64 0] 73) = w7 at L7 ⊢
    go_wp2_with fail
    refine (L7.read ((show Calls _ _ #[_, .int .u64 16] _ _ from hrw _).mono fun e w' ⟨h1, h2⟩ => ⟨h1, h2 ▸ Below.refl _ _⟩)).mono ?_
    rintro e w8 ⟨rfl, L8⟩
    clear L7
    go_wp2_with fail
    refine (L8.read (hcl _)).mono ?_
    rintro e w9 ⟨rfl, L9⟩
    clear L8
    have L10 := L9.alloc #[.int .u64 0, .int .u64 0] 73
    clear L9
    go_wp2_with fail
    generalize w9.alloc (Obj.cells #[.int .u64 0, .int .u64 0] 73) = w10 at L10 ⊢
    go_wp2_with fail
    refine (L10.read (hrd _ _ _ L10.any)).mono ?_
    rintro e w11 ⟨rfl, L11⟩
    clear L10
    have hg := L11.done
    clear L11 hcb hwb hcl hrw hrd
    go_wp2
    go_ret
    exact ⟨rfl, hg⟩
end Go.Proofs.Ck
