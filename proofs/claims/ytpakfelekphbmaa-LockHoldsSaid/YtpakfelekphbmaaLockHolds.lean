/- LockHolds: the walk. -/
import Derived.Test.YtpakfelekphbmaaLock2
namespace Go.Proofs.Ck
open Go Go.RowKit

set_option maxRecDepth 100000 in
set_option maxHeartbeats 4000000 in
theorem lockHolds {w : World} {A : Option Addr} {n : Nat} {l : List (Nat × Nat)} (c : Nat) (d : Int) (hc : c < 256) (hl : Puts (fun b => b < w.heap.size) w A l) (hm : l.length ≤ 9223372036854775807)
    (hx : ∀ p ∈ l, p.1 < 18446744073709551616 ∧ p.2 < 18446744073709551616) :
    Calls Try.prog 25 #[.slice A l.length n, .int .u8 (c : Int), .int .i64 d] w fun e w' => e = .returned (.bool true) ∧ Grow w w' := by
  have ec : IntKind.i64.wrap ((c : Int) % 8) = ((c % 8 : Nat) : Int) := by rw [IntKind.wrap_i64]; omega
  have hc8 : c % 8 < 8 := by omega
  obtain ⟨x, hxc⟩ : ∃ x, x = c % 8 + 1 := ⟨_, rfl⟩
  have hx9 : x ≤ 8 := by omega
  generalize c % 8 = C at *
  have HX := Lib.hid hxc
  clear hxc
  go_enter Try.func25, Try.ntmps25
  go_wp2_with fail
  refine (awake18 w).mono ?_
  rintro e w1 ⟨rfl, hg⟩
  go_wp2_with fail
  refine (formed_law hg hl fun hl1 => formed74 (c := n) 4480 (by unfold fits; omega) hl1 hm hx).mono ?_
  rintro e w2 ⟨base, p, A', n1, c', B', n2, d', rfl, L2⟩
  clear hl hx hg
  generalize fillF 4480 (l.take 60) = f at L2
  have L3 := L2.alloc #[.slice A' n1 c', .slice B' n2 d'] 67
  clear L2
  go_wp2_with fail
  generalize w2.alloc (Obj.cells #[.slice A' n1 c', .slice B' n2 d'] 67) = w3 at L3 ⊢
  go_wp2_with fail
  refine (L3.clear C hc8).mono ?_
  rintro e w4 ⟨rfl, L4⟩
  clear L3
  go_wp2_with fail
  refine (L4.attach0 hc8 (upd_same _ _ _)).mono ?_
  rintro e w5 ⟨rfl, L5⟩
  clear L4
  go_wp2_with fail
  refine (L5.takeX hc8 HX).mono ?_
  rintro e w6 ⟨rfl, L6⟩
  clear L5
  have L7 := L6.alloc #[.int .u64 24, .int .u64 (x : Int)] 73
  clear L6
  go_wp2_with fail
  generalize w6.alloc (Obj.cells #[.int .u64 24, .int .u64 (x : Int)] 73) = w7 at L7 ⊢
  have b0 := L7.cell (List.mem_cons_self ..) 0
  have b1 := L7.cell (List.mem_cons_self ..) 1
  go_wp2_with fail
  refine (L7.store 24 x (by unfold inSeg; omega) (by omega)).mono ?_
  rintro e w8 ⟨rfl, L8⟩
  clear L7
  clear b0 b1
  go_wp2_with fail
  refine (L8.holderIs hc8 (by rw [upd_same, HX.out])).mono ?_
  rintro e w9 ⟨rfl, L9⟩
  clear L8
  go_wp2_with fail
  refine (L9.mayIs d (mayB_live (c := C) (by rw [upd_same, HX.out]) hc8 (by rw [upd_ne (by omega), upd_same]; omega))).mono ?_
  rintro e w10 ⟨rfl, L10⟩
  clear L9
  go_wp2_with fail
  refine (L10.leave).mono ?_
  rintro e w11 ⟨rfl, L11⟩
  clear L10
  have L12 := L11.alloc #[.int .u64 24, .int .u64 0] 73
  clear L11
  go_wp2_with fail
  generalize w11.alloc (Obj.cells #[.int .u64 24, .int .u64 0] 73) = w12 at L12 ⊢
  have b0 := L12.cell (List.mem_cons_self ..) 0
  have b1 := L12.cell (List.mem_cons_self ..) 1
  go_wp2_with fail
  refine (L12.store 24 0 (by unfold inSeg; omega) (by omega)).mono ?_
  rintro e w13 ⟨rfl, L13⟩
  clear L12
  clear b0 b1
  go_wp2_with fail
  refine (L13.holderNo (by rw [upd_same]; omega)).mono ?_
  rintro e w14 ⟨rfl, L14⟩
  clear L13
  by_cases h0 : 0 ≤ d
  · have t0 : decide (0 ≤ d) = true := decide_eq_true h0
    by_cases h8 : d < 8
    · have t1 : decide (d < 8) = true := decide_eq_true h8
      go_wp2_with fail
      refine (L14.mayIs d (b := true) (by rw [mayB_none (upd_same _ _ _), decide_eq_true ⟨h0, h8⟩])).mono ?_
      rintro e w15 ⟨rfl, L15⟩
      clear L14
      have hg := L15.done
      clear L15
      go_wp2
      go_ret
      exact ⟨rfl, hg⟩
    · have t1 : decide (d < 8) = false := decide_eq_false h8
      go_wp2_with fail
      refine (L14.mayIs d (b := false) (by rw [mayB_none (upd_same _ _ _), decide_eq_false (by omega)])).mono ?_
      rintro e w15 ⟨rfl, L15⟩
      clear L14
      have hg := L15.done
      clear L15
      go_wp2
      go_ret
      exact ⟨rfl, hg⟩
  · have t0 : decide (0 ≤ d) = false := decide_eq_false h0
    go_wp2_with fail
    refine (L14.mayIs d (b := false) (by rw [mayB_none (upd_same _ _ _), decide_eq_false (by omega)])).mono ?_
    rintro e w15 ⟨rfl, L15⟩
    clear L14
    have hg := L15.done
    clear L15
    go_wp2
    go_ret
    exact ⟨rfl, hg⟩
end Go.Proofs.Ck
