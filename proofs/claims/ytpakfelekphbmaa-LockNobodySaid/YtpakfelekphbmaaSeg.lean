/- A part of the proofs of this seat's laws. -/
import Derived.Test.YtpakfelekphbmaaBase
import Derived.Test.YtpakfelekphbmaaProg
namespace Go.Proofs.Ck
open Go Go.RowKit

def byteOf (v j : Nat) : Nat := v / 256 ^ j % 256
def segByte (W : List Nat) (j : Nat) : Nat := byteOf (W.getD (j / 8) 0) (j % 8)

/-- A segment at block sb, its bytes at block bb. -/
structure SegRep (w : World) (sb bb : Nat) (cap : Nat) (cs : Array Value) (W : List Nat) : Prop where
  seg : w.heap[sb]? = some (.cells #[.slice (some ⟨bb, 0, none⟩) (8 * W.length) cap] 174 (0, 0))
  bytes : w.heap[bb]? = some (.cells cs 5 (0, 0))
  size : cs.size = cap
  le : 8 * W.length ≤ cap
  capLe : cap ≤ 9223372036854775807
  small : 8 * W.length ≤ 140737488351232
  cell : ∀ j, j < 8 * W.length → cs[j]? = some (.int .u8 (segByte W j))
  words : ∀ x ∈ W, x < 18446744073709551616

theorem SegRep.head {w : World} {sb bb cap : Nat} {cs : Array Value} {W : List Nat} (h : SegRep w sb bb cap cs W) : w.cell? ⟨sb, 0, none⟩ = some (.slice (some ⟨bb, 0, none⟩) (8 * W.length) cap) := by
  rw [cell_of_heap h.seg]; rfl
theorem SegRep.lt {w : World} {sb bb cap : Nat} {cs : Array Value} {W : List Nat} (h : SegRep w sb bb cap cs W) : sb < w.heap.size := lt_of_heap h.seg
theorem SegRep.lt' {w : World} {sb bb cap : Nat} {cs : Array Value} {W : List Nat} (h : SegRep w sb bb cap cs W) : bb < w.heap.size := lt_of_heap h.bytes

set_option maxHeartbeats 400000 in
theorem size_nil (w : World) :
    Calls Try.prog 58 #[.pointer none] w fun e w' => e = .returned (.int .u64 0) ∧ w = w' := by
  go_enter Try.func58, Try.ntmps58
  go_wp2
  go_ret
  exact ⟨rfl, rfl⟩

set_option maxHeartbeats 400000 in
theorem size_some (b : Nat) (a : Option Addr) (n c : Nat) (w : World) (h : w.cell? ⟨b, 0, none⟩ = some (.slice a n c)) (hn : n < 18446744073709551616) :
    Calls Try.prog 58 #[.pointer (some ⟨b, 0, none⟩)] w fun e w' => e = .returned (.int .u64 n) ∧ w = w' := by
  go_enter Try.func58, Try.ntmps58
  go_wp2
  go_ret
  exact ⟨rfl, rfl⟩

set_option maxHeartbeats 400000 in
theorem in_some (b : Nat) (a : Option Addr) (n c : Nat) (w : World) (h : w.cell? ⟨b, 0, none⟩ = some (.slice a n c)) (hn : n < 18446744073709551616)
   (off : Int) (h0 : 0 ≤ off) (h1 : off < 18446744073709551616) :
    Calls Try.prog 145 #[.pointer (some ⟨b, 0, none⟩), .int .u64 off] w fun e w' => e = .returned (.bool (decide (off % 8 = 0 ∧ off < n))) ∧ w = w' := by
  by_cases hm : off % 8 = 0
  · go_enter Try.func145, Try.ntmps145
    go_wp2_with (go_at_call 58; refine (size_some b a n c _ h hn).mono ?_; rintro e w' ⟨rfl, rfl⟩)
    go_ret
    exact ⟨by simp [hm], rfl⟩
  · go_enter Try.func145, Try.ntmps145
    go_wp2_with (go_at_call 58; refine (size_some b a n c _ h hn).mono ?_; rintro e w' ⟨rfl, rfl⟩)
    go_ret
    exact ⟨by simp [hm], rfl⟩

set_option maxHeartbeats 400000 in
theorem in_nil (w : World) (off : Int) (h0 : 0 ≤ off) (h1 : off < 18446744073709551616) :
    Calls Try.prog 145 #[.pointer none, .int .u64 off] w fun e w' => e = .returned (.bool false) ∧ w = w' := by
  by_cases hm : off % 8 = 0
  · go_enter Try.func145, Try.ntmps145
    go_wp2_with (go_at_call 58; refine (size_nil _).mono ?_; rintro e w' ⟨rfl, rfl⟩)
    go_ret
    exact ⟨by simp; omega, rfl⟩
  · go_enter Try.func145, Try.ntmps145
    go_wp2_with (go_at_call 58; refine (size_nil _).mono ?_; rintro e w' ⟨rfl, rfl⟩)
    go_ret
    exact ⟨by simp, rfl⟩

theorem in_ok {w : World} {sb bb cap : Nat} {cs : Array Value} {W : List Nat} (h : SegRep w sb bb cap cs W) (off : Nat) (hm : off % 8 = 0) (hlt : off / 8 < W.length) :
    Calls Try.prog 145 #[.pointer (some ⟨sb, 0, none⟩), .int .u64 off] w fun e w' => e = .returned (.bool true) ∧ w = w' := by
  have hs := h.small
  refine (in_some sb _ _ _ w h.head (by omega) off (by omega) (by omega)).mono ?_
  rintro e w' ⟨rfl, rfl⟩
  refine ⟨?_, rfl⟩
  rw [decide_eq_true (by omega)]

theorem in_bad {w : World} {sb bb cap : Nat} {cs : Array Value} {W : List Nat} (h : SegRep w sb bb cap cs W) (off : Nat) (ho : off < 18446744073709551616) (hm : ¬ (off % 8 = 0 ∧ off / 8 < W.length)) :
    Calls Try.prog 145 #[.pointer (some ⟨sb, 0, none⟩), .int .u64 off] w fun e w' => e = .returned (.bool false) ∧ w = w' := by
  have hs := h.small
  refine (in_some sb _ _ _ w h.head (by omega) off (by omega) (by omega)).mono ?_
  rintro e w' ⟨rfl, rfl⟩
  refine ⟨?_, rfl⟩
  rw [decide_eq_false (by omega)]

set_option maxHeartbeats 400000 in
theorem backward (a : Option Addr) (n c : Nat) (w : World) :
    Calls Try.prog 147 #[.slice a n c] w fun e w' => e = .returned (.func (.func 182) #[] #[.pointer (some ⟨w.heap.size, 0, none⟩)]) ∧ w.alloc (.cells #[.slice a n c] 30) = w' := by
  go_enter Try.func147, Try.ntmps147
  go_wp2
  go_ret
  exact ⟨rfl, rfl⟩

attribute [local go_sem] Oper.semAt_some wide_fn wide_depth wide_in_fn wide_in_depth

set_option maxRecDepth 100000 in
set_option maxHeartbeats 1000000 in
theorem backward_iter (B b off n c : Nat) (f : Nat → Nat) (w : World) (hn : n ≤ 140737488351232) (hB : w.cell? ⟨B, 0, none⟩ = some (.slice (some ⟨b, off, none⟩) n c))
    (hc : ∀ j, j < n → w.cell? ⟨b, off + j, none⟩ = some (.int .u8 (f j))) :
    Iter Try.prog 182 #[.pointer (some ⟨B, 0, none⟩)] n (fun i => #[.int .i64 ((n : Int) - 1 - i), .int .u8 (f (n - 1 - i))]) (fun k => k = B ∨ k = b) w := by
  intro l J Jx W hWz hT hJ hY hJx h0
  refine callsIn_of_wp Try.func182 rfl trivial ?_ rfl
  simp only [Try.ntmps182, List.size_toArray, List.length_cons, List.length_nil, Nat.reduceAdd, Nat.reduceSub, Array.replicate_succ, Array.replicate_zero, List.push_toArray, List.append_toArray, List.nil_append, List.cons_append]
  have hBW : W.cell? ⟨B, 0, none⟩ = some (.slice (some ⟨b, off, none⟩) n c) := (World.cell?_of_block (hT B (.inl rfl))).trans hB
  gi_wp2
  gi_loopw [3] (fun i wr => ∃ k : Nat, k ≤ n ∧ i = .int .i64 ((n : Int) - 1 - k) ∧ J k wr ∧ (∀ x, (x = B ∨ x = b) → wr.heap[x]? = w.heap[x]?))
    (fun i _ => ((intOf i) + 1).toNat)
  case atStart => exact ⟨0, Nat.zero_le _, by simp, h0, hT⟩
  case round =>
    obtain ⟨k, hk, rfl, hJs, hTr⟩ := hrel
    have hBr : wr.cell? ⟨B, 0, none⟩ = some (.slice (some ⟨b, off, none⟩) n c) := (World.cell?_of_block (hTr B (.inl rfl))).trans hB
    by_cases hlt : k < n
    · obtain ⟨fn, tmps, assign, body, hy, hR⟩ := hY k wr hlt hJs
      have hcx : wr.cell? ⟨b, off + (n - 1 - k), none⟩ = some (.int .u8 (f (n - 1 - k))) :=
        (World.cell?_of_block (hTr b (.inr rfl))).trans (hc _ (by omega))
      gi_wp2
      refine hR.mono ?_
      rintro e W3 ⟨hz3, hT3, (⟨rfl, hJ3⟩ | ⟨rfl, hJx3⟩)⟩
      · gi_wp2
        go_roundw
        case rel => exact ⟨k + 1, by omega, by congr 1; omega, hJ3, fun x hx => (hT3 x hx).trans (hTr x hx)⟩
        case measure => simp [intOf]; omega
      · gi_wp2
        refine bodyPost_ret (results_none rfl _ _ _) rfl ?_
        exact ⟨⟨_, rfl⟩, .inr ⟨k, hlt, hJx3⟩⟩
    · obtain rfl : k = n := by omega
      gi_wp2
      go_end0
      exact ⟨⟨_, rfl⟩, .inl hJs⟩


end Go.Proofs.Ck
