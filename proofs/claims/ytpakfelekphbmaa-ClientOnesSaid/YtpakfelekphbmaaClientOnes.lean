/- ClientOnes: the walk. -/
import Derived.Test.YtpakfelekphbmaaDo
namespace Go.Proofs.Ck
open Go Go.RowKit

set_option maxRecDepth 100000 in
set_option maxHeartbeats 4000000 in
theorem clientOnes {w : World} {A : Option Addr} {n : Nat} {l : List (Nat × Nat)} (c what d : Int) (off : Nat) (ho : off < 18446744073709551616) (hl : Puts (fun b => b < w.heap.size) w A l) (hm : l.length ≤ 9223372036854775807)
    (hx : ∀ p ∈ l, p.1 < 18446744073709551616 ∧ p.2 < 18446744073709551616) :
    Calls Try.prog 27 #[.slice A l.length n, .agg #[.int .i64 what, .int .i64 d, .int .u64 (off : Int)], .int .i64 c] w fun e w' => e = .returned (.bool true) ∧ Grow w w' := by
  have hga : Grow w (w.alloc (.cells #[.int .i64 what, .int .i64 d, .int .u64 (off : Int)] 107)) := (Below.refl _ _).alloc (Nat.le_refl _) _
  have hnew := World.alloc_heap_new w (.cells #[.int .i64 what, .int .i64 d, .int .u64 (off : Int)] 107)
  go_enter Try.func27, Try.ntmps27
  go_wp2_with fail
  generalize w.alloc (.cells #[.int .i64 what, .int .i64 d, .int .u64 (off : Int)] 107) = wa at *
  refine (awake8 wa).mono ?_
  rintro e w1 ⟨rfl, hg⟩
  have hB := hg.heap hnew
  have hgw := hga.trans hg
  clear hnew
  go_wp2_with fail
  refine (formed_K hgw hl stable_lies (Lies.fresh hB) fun hl1 => formed100 (c := n) 4480 (by unfold fits; omega) hl1 hm hx).mono ?_
  rintro e w2 ⟨base, p, A', n1, c', B', n2, d', rfl, L2⟩
  clear hl hx hga hg hgw hB
  generalize fillF 4480 (l.take 60) = f at L2
  obtain ⟨x, hgx⟩ : ∃ x, getF f c 0 = x := ⟨_, rfl⟩
  obtain ⟨y, hgy⟩ : ∃ y, getF f c 8 = y := ⟨_, rfl⟩
  have HX := Lib.hid hgx
  have HY := Lib.hid hgy
  clear hgx hgy
  have L3 := L2.alloc #[.slice A' n1 c', .slice B' n2 d'] 67
  clear L2
  go_wp2_with fail
  generalize w2.alloc (Obj.cells #[.slice A' n1 c', .slice B' n2 d'] 67) = w3 at L3 ⊢
  go_wp2_with fail
  refine (L3.read (stateIs L3.any HX.out)).mono ?_
  rintro e w4 ⟨rfl, L4⟩
  clear L3
  go_wp2_with fail
  refine (L4.read (headIs L4.any HY.out)).mono ?_
  rintro e w5 ⟨rfl, L5⟩
  clear L4
  obtain ⟨X, hX⟩ := L5.know
  have d0 := hX.cell 0
  have d1 := hX.cell 1
  have d2 := hX.cell 2
  clear hX
  go_wp2_with fail
  refine (L5.deed what d off ho).mono ?_
  rintro e w6 ⟨rfl, L6⟩
  clear L5
  clear d0 d1 d2
  obtain ⟨X, hX⟩ := L6.know
  have d1 := hX.cell 1
  clear hX
  have hg := L6.done
  by_cases hcd : c = d
  · subst hcd
    clear L6
    go_wp2
    go_ret
    exact ⟨rfl, hg⟩
  · have t0 : (c == d) = false := by rw [beq_eq_false_iff_ne]; exact hcd
    have HCD := Lib.hid hcd
    clear hcd hg
    go_wp2_with fail
    refine (L6.read (stateIs L6.any ((doF_other HCD.out (by omega)).trans HX.out))).mono ?_
    rintro e w7 ⟨rfl, L7⟩
    clear L6
    clear d1
    go_wp2_with fail
    refine (L7.read (headIs L7.any ((doF_other HCD.out (by omega)).trans HY.out))).mono ?_
    rintro e w8 ⟨rfl, L8⟩
    clear L7
    have hg := L8.done
    clear L8
    go_wp2
    go_ret
    exact ⟨rfl, hg⟩
end Go.Proofs.Ck
