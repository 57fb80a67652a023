/- LockDies: the walk. -/
import Derived.Test.YtpakfelekphbmaaLock2
namespace Go.Proofs.Ck
open Go Go.RowKit

set_option maxRecDepth 100000 in
set_option maxHeartbeats 4000000 in
theorem lockDies {w : World} {A : Option Addr} {n : Nat} {l : List (Nat × Nat)} (c d : Nat) (hc : c < 256) (hd : d < 256) (hl : Puts (fun b => b < w.heap.size) w A l) (hm : l.length ≤ 9223372036854775807)
    (hx : ∀ p ∈ l, p.1 < 18446744073709551616 ∧ p.2 < 18446744073709551616) :
    Calls Try.prog 17 #[.slice A l.length n, .int .u8 (c : Int), .int .u8 (d : Int)] w fun e w' => e = .returned (.bool true) ∧ Grow w w' := by
  have ec : IntKind.i64.wrap ((c : Int) % 8) = ((c % 8 : Nat) : Int) := by rw [IntKind.wrap_i64]; omega
  have ed : IntKind.i64.wrap ((d : Int) % 8) = ((d % 8 : Nat) : Int) := by rw [IntKind.wrap_i64]; omega
  have hc8 : c % 8 < 8 := by omega
  have hd8 : d % 8 < 8 := by omega
  obtain ⟨x, hxc⟩ : ∃ x, x = c % 8 + 1 := ⟨_, rfl⟩
  obtain ⟨y, hyd⟩ : ∃ x, x = d % 8 + 1 := ⟨_, rfl⟩
  have hx9 : x ≤ 8 := by omega
  have hy9 : y ≤ 8 := by omega
  generalize c % 8 = C at *
  generalize d % 8 = D at *
  have HX := Lib.hid hxc
  have HY := Lib.hid hyd
  clear hxc hyd
  go_enter Try.func17, Try.ntmps17
  go_wp2_with fail
  refine (awake18 w).mono ?_
  rintro e w1 ⟨rfl, hg⟩
  go_wp2_with fail
  refine (formed_law hg hl fun hl1 => formed74 (c := n) 4480 (by unfold fits; omega) hl1 hm hx).mono ?_
  rintro e w2 ⟨base, p, A', n1, c', B', n2, d', rfl, L2⟩
  clear hl hx hg
  generalize fillF 4480 (l.take 60) = f at L2
  have L3 := L2.alloc #[.slice A' n1 c', .slice B' n2 d'] 67
  clear L2
  go_wp2_with fail
  generalize w2.alloc (Obj.cells #[.slice A' n1 c', .slice B' n2 d'] 67) = w3 at L3 ⊢
  go_wp2_with fail
  refine (L3.takeX hc8 HX).mono ?_
  rintro e w4 ⟨rfl, L4⟩
  clear L3
  have L5 := L4.alloc #[.int .u64 24, .int .u64 (x : Int)] 73
  clear L4
  go_wp2_with fail
  generalize w4.alloc (Obj.cells #[.int .u64 24, .int .u64 (x : Int)] 73) = w5 at L5 ⊢
  have b0 := L5.cell (List.mem_cons_self ..) 0
  have b1 := L5.cell (List.mem_cons_self ..) 1
  go_wp2_with fail
  refine (L5.store 24 x (by unfold inSeg; omega) (by omega)).mono ?_
  rintro e w6 ⟨rfl, L6⟩
  clear L5
  clear b0 b1
  go_wp2_with fail
  refine (L6.kill C hc8).mono ?_
  rintro e w7 ⟨rfl, L7⟩
  clear L6
  by_cases hCD : C = D
  · subst hCD
    go_wp2_with fail
    refine (L7.mayIs C (mayB_self (c := C) (by rw [upd_ne (by omega), upd_same, HX.out]) hc8)).mono ?_
    rintro e w8 ⟨rfl, L8⟩
    clear L7
    have hg := L8.done
    clear L8
    go_wp2
    go_ret
    exact ⟨rfl, hg⟩
  · have t0 : ((C : Int) == D) = false := by rw [beq_eq_false_iff_ne]; omega
    have HCD := Lib.hid hCD
    clear hCD
    go_wp2_with fail
    refine (L7.clear D hd8).mono ?_
    rintro e w8 ⟨rfl, L8⟩
    clear L7
    go_wp2_with fail
    refine (L8.mayIs D (mayB_dead (c := C) (by rw [upd_ne (by omega), upd_ne (by omega), upd_same, HX.out]) hc8 hd8 HCD.out (by rw [upd_ne (by have := HCD.out; omega), upd_same]))).mono ?_
    rintro e w9 ⟨rfl, L9⟩
    clear L8
    go_wp2_with fail
    refine (L9.takeX hd8 HY).mono ?_
    rintro e w10 ⟨rfl, L10⟩
    clear L9
    have L11 := L10.alloc #[.int .u64 24, .int .u64 (y : Int)] 73
    clear L10
    go_wp2_with fail
    generalize w10.alloc (Obj.cells #[.int .u64 24, .int .u64 (y : Int)] 73) = w11 at L11 ⊢
    have b0 := L11.cell (List.mem_cons_self ..) 0
    have b1 := L11.cell (List.mem_cons_self ..) 1
    go_wp2_with fail
    refine (L11.store 24 y (by unfold inSeg; omega) (by omega)).mono ?_
    rintro e w12 ⟨rfl, L12⟩
    clear L11
    clear b0 b1
    go_wp2_with fail
    refine (L12.holderIs hd8 (by rw [upd_same, HY.out])).mono ?_
    rintro e w13 ⟨rfl, L13⟩
    clear L12
    go_wp2_with fail
    refine (L13.mayIs C (mayB_live (c := D) (by rw [upd_same, HY.out]) hd8 (by rw [upd_ne (by omega), upd_same]; omega))).mono ?_
    rintro e w14 ⟨rfl, L14⟩
    clear L13
    have hg := L14.done
    clear L14
    go_wp2
    go_ret
    exact ⟨rfl, hg⟩
end Go.Proofs.Ck
