/- LockOne: the walk. -/
import Derived.Test.YtpakfelekphbmaaLock2
namespace Go.Proofs.Ck
open Go Go.RowKit

set_option maxRecDepth 100000 in
set_option maxHeartbeats 4000000 in
theorem lockOne {w : World} {A : Option Addr} {n : Nat} {l : List (Nat × Nat)} (c d : Nat) (hc : c < 256) (hd : d < 256) (hl : Puts (fun b => b < w.heap.size) w A l) (hm : l.length ≤ 9223372036854775807)
    (hx : ∀ p ∈ l, p.1 < 18446744073709551616 ∧ p.2 < 18446744073709551616) :
    Calls Try.prog 26 #[.slice A l.length n, .agg #[.int .u8 (c : Int), .int .u8 (d : Int)]] w fun e w' => e = .returned (.bool true) ∧ Grow w w' := by
  have ec : IntKind.i64.wrap ((c : Int) % 8) = ((c % 8 : Nat) : Int) := by rw [IntKind.wrap_i64]; omega
  have ed : IntKind.i64.wrap ((d : Int) % 8) = ((d % 8 : Nat) : Int) := by rw [IntKind.wrap_i64]; omega
  have hc8 : c % 8 < 8 := by omega
  have hd8 : d % 8 < 8 := by omega
  obtain ⟨x, hxc⟩ : ∃ x, x = c % 8 + 1 := ⟨_, rfl⟩
  have hx9 : x ≤ 8 := by omega
  generalize c % 8 = C at *
  generalize d % 8 = D at *
  have HX := Lib.hid hxc
  clear hxc
  have hga : Grow w (w.alloc (.cells #[.int .u8 (c : Int), .int .u8 (d : Int)] 104)) := (Below.refl _ _).alloc (Nat.le_refl _) _
  have hnew := World.alloc_heap_new w (.cells #[.int .u8 (c : Int), .int .u8 (d : Int)] 104)
  go_enter Try.func26, Try.ntmps26
  go_wp2_with fail
  generalize w.alloc (.cells #[.int .u8 (c : Int), .int .u8 (d : Int)] 104) = wa at *
  refine (awake18 wa).mono ?_
  rintro e w1 ⟨rfl, hg⟩
  have hB := hg.heap hnew
  have hg := hga.trans hg
  clear hga hnew
  have b0 : w1.cell? ⟨w.heap.size, 0, none⟩ = some (.int .u8 (c : Int)) := by rw [cell_of_heap hB]; rfl
  have b1 : w1.cell? ⟨w.heap.size, 1, none⟩ = some (.int .u8 (d : Int)) := by rw [cell_of_heap hB]; rfl
  clear hB
  have al : Try.prog.arrayLen 104 = 2 := by kernel_rfl
  go_wp2_with fail
  refine (formed_law hg hl fun hl1 => formed74 (c := n) 4480 (by unfold fits; omega) hl1 hm hx).mono ?_
  rintro e w2 ⟨base, p, A', n1, c', B', n2, d', rfl, L2⟩
  clear hl hx hg b0 b1
  generalize fillF 4480 (l.take 60) = f at L2
  have L3 := L2.alloc #[.slice A' n1 c', .slice B' n2 d'] 67
  clear L2
  go_wp2_with fail
  generalize w2.alloc (Obj.cells #[.slice A' n1 c', .slice B' n2 d'] 67) = w3 at L3 ⊢
  go_wp2_with fail
  refine (L3.clear C hc8).mono ?_
  rintro e w4 ⟨rfl, L4⟩
  clear L3
  go_wp2_with fail
  refine (L4.attach0 hc8 (upd_same _ _ _)).mono ?_
  rintro e w5 ⟨rfl, L5⟩
  clear L4
  generalize hb1 : mayB (upd (upd f (64 + 416 * C) 0) (64 + 416 * C) 1) C = p1
  go_wp2_with fail
  refine (L5.mayIs C hb1).mono ?_
  rintro e w6 ⟨rfl, L6⟩
  clear L5
  clear hb1
  cases p1
  · have hg := L6.done
    clear L6
    go_wp2
    go_ret
    exact ⟨rfl, hg⟩
  ·
    generalize hb2 : mayB (upd (upd f (64 + 416 * C) 0) (64 + 416 * C) 1) D = p2
    go_wp2_with fail
    refine (L6.mayIs D hb2).mono ?_
    rintro e w7 ⟨rfl, L7⟩
    clear L6
    clear hb2
    cases p2
    · have hg := L7.done
      clear L7
      go_wp2
      go_ret
      exact ⟨rfl, hg⟩
    ·
      go_wp2_with fail
      refine (L7.takeX hc8 HX).mono ?_
      rintro e w8 ⟨rfl, L8⟩
      clear L7
      have L9 := L8.alloc #[.int .u64 24, .int .u64 (x : Int)] 73
      clear L8
      go_wp2_with fail
      generalize w8.alloc (Obj.cells #[.int .u64 24, .int .u64 (x : Int)] 73) = w9 at L9 ⊢
      have b0 := L9.cell (List.mem_cons_self ..) 0
      have b1 := L9.cell (List.mem_cons_self ..) 1
      go_wp2_with fail
      refine (L9.store 24 x (by unfold inSeg; omega) (by omega)).mono ?_
      rintro e w10 ⟨rfl, L10⟩
      clear L9
      clear b0 b1
      go_wp2_with fail
      refine (L10.mayIs D (mayB_live (c := C) (by rw [upd_same, HX.out]) hc8 (by rw [upd_ne (by omega), upd_same]; omega))).mono ?_
      rintro e w11 ⟨rfl, L11⟩
      clear L10
      go_wp2_with fail
      refine (L11.mayIs C (mayB_live (c := C) (by rw [upd_same, HX.out]) hc8 (by rw [upd_ne (by omega), upd_same]; omega))).mono ?_
      rintro e w12 ⟨rfl, L12⟩
      clear L11
      have hg := L12.done
      clear L12
      go_wp2
      go_ret
      exact ⟨rfl, hg⟩
end Go.Proofs.Ck
