/- Logs: read. -/
import Derived.Test.YtpakfelekphbmaaIntent4
namespace Go.Proofs.Ck
open Go Go.RowKit

set_option maxRecDepth 100000 in
set_option maxHeartbeats 1000000 in
theorem read_nil {w : World} {v : Value} {f : Nat → Nat} (h : TxAny w v f) (c : Int) (n : Nat) (hn : f (atN c 16) = n) (hb : ¬ (0 ≤ c ∧ c < 8) ∨ 24 < n) :
    Calls Try.prog 93 #[v, .int .i64 c] w fun e w' => e = .returned (.slice none 0 0) ∧ Grow w w' := by
  obtain ⟨p, rfl⟩ := h.ptr
  have hg0 : Grow w ((w.alloc (.cells #[.pointer p] 65)).alloc (.cells #[.int .i64 c] 3)) := ((Below.refl _ w).alloc (Nat.le_refl _) _).alloc (by simp) _
  have hB : ((w.alloc (.cells #[.pointer p] 65)).alloc (.cells #[.int .i64 c] 3)).heap[w.heap.size]? = some (.cells #[.pointer p] 65 (0, 0)) := (Below.heap_alloc _ _ _ (by simp)).trans (World.alloc_heap_new w _)
  have hC : ((w.alloc (.cells #[.pointer p] 65)).alloc (.cells #[.int .i64 c] 3)).heap[w.heap.size + 1]? = some (.cells #[.int .i64 c] 3 (0, 0)) := by
    have := World.alloc_heap_new (w.alloc (.cells #[.pointer p] 65)) (.cells #[.int .i64 c] 3)
    rwa [World.size_alloc] at this
  have hat := fun w => at17 w c 16
  have hth := fun w => there w c
  have hao : atN c 16 < 18446744073709551616 := by unfold atN; split <;> omega
  have hl := fun w1 (hg : Grow w w1) => load_txany (h.grow hg) (atN c 16) hao
  rw [hn] at hl
  go_enter Try.func93, Try.ntmps93
  go_wp2_with fail
  generalize (w.alloc (.cells #[.pointer p] 65)).alloc (.cells #[.int .i64 c] 3) = w1 at *
  have c0 : w1.cell? ⟨w.heap.size, 0, none⟩ = some (.pointer p) := by rw [cell_of_heap hB]; rfl
  have c1 : w1.cell? ⟨w.heap.size + 1, 0, none⟩ = some (.int .i64 c) := by rw [cell_of_heap hC]; rfl
  clear hn
  go_region_held3 (fun w' => w'.cell? ⟨w.heap.size, 0, none⟩ = some (.pointer p) ∧ w'.cell? ⟨w.heap.size + 1, 0, none⟩ = some (.int .i64 c) ∧ Grow w1 w')
    (first | exact ⟨c0, c1, (Below.refl _ _).drew⟩ | exact ⟨(cell_of_heap (hgf.heap hB) 0).trans rfl, (cell_of_heap (hgf.heap hC) 0).trans rfl, hgf⟩)
    (first
      | (go_at_call 161; refine Calls.mono (show Calls _ _ #[_, .int .u64 16] _ _ from hat _) ?_; rintro e w' ⟨rfl, rfl⟩)
      | (go_at_call 118; refine Calls.mono (hl _ (hg0.trans (grow_drew w1))) ?_; rintro e wn ⟨rfl, hgn⟩; have hgf := (grow_drew w1).trans hgn))
  have hB2 := hgf.heap hB
  have hC2 := hgf.heap hC
  have hg2 := hg0.trans hgf
  clear hl hat hB hC hg0 hgf hgn c0 c1
  have c1 : wn.cell? ⟨w.heap.size + 1, 0, none⟩ = some (.int .i64 c) := by rw [cell_of_heap hC2]; rfl
  go_wp2_with fail
  refine (hth wn).mono ?_
  rintro e w' ⟨rfl, rfl⟩
  clear hth
  by_cases hc : 0 ≤ c ∧ c < 8
  · have t1 : decide ((24 : Int) < n) = true := decide_eq_true (by omega)
    rw [decide_eq_true hc]
    clear c1 hc hb
    go_wp2
    go_ret
    exact ⟨rfl, hg2⟩
  · rw [decide_eq_false hc]
    clear c1 hc hb
    go_wp2
    go_ret
    exact ⟨rfl, hg2⟩

set_option maxRecDepth 100000 in
set_option maxHeartbeats 1000000 in
theorem read_ok {w : World} {v : Value} {f : Nat → Nat} (h : TxAny w v f) (C : Nat) (hc : C < 8) (n : Nat) (hn : f (atN (C : Int) 16) = n) (hb : n ≤ 24) :
    Calls Try.prog 93 #[v, .int .i64 (C : Int)] w fun e w' => ∃ A m, e = .returned (.slice A n m) ∧ Row (fun b => w.heap.size ≤ b) w' A n 2 (puts (readN f C n)) ∧ Grow w w' := by
  obtain ⟨i73, hi3, hz3, hs3, hb3⟩ := info_parts info73
  have h0 := h
  obtain ⟨c, hcC⟩ : ∃ c : Int, (C : Int) = c := ⟨_, rfl⟩
  rw [hcC] at hn ⊢
  obtain ⟨p, rfl⟩ := h.ptr
  have hg0 : Grow w ((w.alloc (.cells #[.pointer p] 65)).alloc (.cells #[.int .i64 c] 3)) := ((Below.refl _ w).alloc (Nat.le_refl _) _).alloc (by simp) _
  have hB : ((w.alloc (.cells #[.pointer p] 65)).alloc (.cells #[.int .i64 c] 3)).heap[w.heap.size]? = some (.cells #[.pointer p] 65 (0, 0)) := (Below.heap_alloc _ _ _ (by simp)).trans (World.alloc_heap_new w _)
  have hC : ((w.alloc (.cells #[.pointer p] 65)).alloc (.cells #[.int .i64 c] 3)).heap[w.heap.size + 1]? = some (.cells #[.int .i64 c] 3 (0, 0)) := by
    have := World.alloc_heap_new (w.alloc (.cells #[.pointer p] 65)) (.cells #[.int .i64 c] 3)
    rwa [World.size_alloc] at this
  have hat := fun w => at17 w c 16
  have hth := fun w => there w c
  have hao : atN c 16 < 18446744073709551616 := by unfold atN; split <;> omega
  have hl := fun w1 (hg : Grow w w1) => load_txany (h.grow hg) (atN c 16) hao
  rw [hn] at hl
  go_enter Try.func93, Try.ntmps93
  go_wp2_with fail
  generalize (w.alloc (.cells #[.pointer p] 65)).alloc (.cells #[.int .i64 c] 3) = w1 at *
  have c0 : w1.cell? ⟨w.heap.size, 0, none⟩ = some (.pointer p) := by rw [cell_of_heap hB]; rfl
  have c1 : w1.cell? ⟨w.heap.size + 1, 0, none⟩ = some (.int .i64 c) := by rw [cell_of_heap hC]; rfl
  clear hn
  go_region_held3 (fun w' => w'.cell? ⟨w.heap.size, 0, none⟩ = some (.pointer p) ∧ w'.cell? ⟨w.heap.size + 1, 0, none⟩ = some (.int .i64 c) ∧ Grow w1 w')
    (first | exact ⟨c0, c1, (Below.refl _ _).drew⟩ | exact ⟨(cell_of_heap (hgf.heap hB) 0).trans rfl, (cell_of_heap (hgf.heap hC) 0).trans rfl, hgf⟩)
    (first
      | (go_at_call 161; refine Calls.mono (show Calls _ _ #[_, .int .u64 16] _ _ from hat _) ?_; rintro e w' ⟨rfl, rfl⟩)
      | (go_at_call 118; refine Calls.mono (hl _ (hg0.trans (grow_drew w1))) ?_; rintro e wn ⟨rfl, hgn⟩; have hgf := (grow_drew w1).trans hgn))
  have hB2 := hgf.heap hB
  have hC2 := hgf.heap hC
  have hg2 := hg0.trans hgf
  clear hl hat hB hC hg0 hgf hgn c0 c1
  have c1 : wn.cell? ⟨w.heap.size + 1, 0, none⟩ = some (.int .i64 c) := by rw [cell_of_heap hC2]; rfl
  go_wp2_with fail
  refine (hth wn).mono ?_
  rintro e w' ⟨rfl, rfl⟩
  clear hth
  have t1 : decide ((24 : Int) < n) = false := decide_eq_false (by omega)
  rw [decide_eq_true (show 0 ≤ c ∧ c < 8 by omega)]
  subst hcC
  clear c1 h
  go_wp2_with fail
  go_loopw [7, 22] (fun s i wr => ∃ k : Nat, k ≤ n ∧ i = .int .u64 (k : Int) ∧ Grow wn wr ∧ wr.ownsRow wn.heap.size 73 2 s k (puts (readN f C k))) (fun _ i _ => n - (intOf i).toNat)
  case atStart => exact ⟨0, Nat.zero_le _, rfl, Below.refl _ _, World.ownsRow_nil _ _ _ _⟩
  case round =>
    obtain ⟨k, hk, rfl, hg, hown⟩ := hrel
    by_cases hlt : k < n
    · have HS := Lib.hid (readN_succ f C k)
      have HLN := Lib.hid (readN_length f C k)
      obtain ⟨a, ha⟩ : ∃ a, 64 + 416 * C + (32 + 16 * k) = a := ⟨_, rfl⟩
      obtain ⟨a2, ha2⟩ : ∃ a, 64 + 416 * C + (40 + 16 * k) = a := ⟨_, rfl⟩
      have hw1 := word_one (h0.grow (hg2.trans hg)) (hg.heap hB2) (hg.heap hC2) hc k 0 a (by omega) (.inl rfl) (by omega)
      have hw2 := fun w3 (hg3 : Grow wr w3) => word_one (h0.grow ((hg2.trans hg).trans hg3)) (hg3.heap (hg.heap hB2)) (hg3.heap (hg.heap hC2)) hc k 8 a2 (by omega) (.inr rfl) (by omega)
      rw [ha, ha2] at HS
      clear ha ha2
      generalize f a = x at *
      generalize f a2 = y at *
      generalize readN f C k = L at *
      have g0 : decide ((k : Int) < n) = true := decide_eq_true (by omega)
      have hbase := hg.size
      go_wp2_with fail
      refine (show Calls _ _ #[_, .int .u64 0, _, _] _ _ from hw1).mono ?_
      rintro e w3 ⟨rfl, hg3⟩
      clear hw1
      go_wp2_with fail
      refine (show Calls _ _ #[_, .int .u64 8, _, _] _ _ from hw2 w3 hg3).mono ?_
      rintro e w4 ⟨rfl, hg4⟩
      have hg5 := hg3.trans hg4
      have hown4 := own_grow hown hg5
      have hg6 := hg.trans hg5
      have hbase4 := Nat.le_trans hbase hg5.size
      clear hw2 hg3 hg4 hg5 hown hg
      go_wp2_with (at_builtin; refine wpList_pushm 1 w4 rfl (.tmp 25) (.tmp 33) 64 rfl wn.heap.size 73 i73 _ 2 16 Try.underlying64 hi3 hz3 hs3 hb3 rfl (by decide) u7 k _ rfl hown4 #[.int .u64 (x : Int), .int .u64 (y : Int)] rfl rfl (by simp [Value.oneCell']) rfl (by unfold maxLen; omega) (by omega) hbase4 ?_)
      intro v' w5 hown5 ho5
      obtain ⟨A', c', rfl⟩ : ∃ A c, v' = .slice A (k + 1) c := by
        obtain ⟨g, c, _, e, _⟩ := own_form hown5 (by omega)
        exact ⟨_, c, e⟩
      have hg7 : Grow wn w5 := Below.trans hg6 (ho5.below hg6.size (own_ge hown4))
      clear hown4 ho5 hg6
      go_wp2
      go_roundw
      case rel =>
        refine ⟨k + 1, by omega, by go_num, hg7, ?_⟩
        rw [HS.out, puts_append]
        exact hown5
      case measure => simp [intOf]; omega
    · obtain rfl : k = n := by omega
      have g0 : decide ((k : Int) < k) = false := decide_eq_false (by omega)
      obtain ⟨B, m, rfl, -, -, hr⟩ := Row.of_own hown
      have hgf := hg2.trans hg
      clear hown
      go_wp2
      go_ret
      exact ⟨B, m, rfl, hr.mono fun b _ hb => Nat.le_trans hg2.size hb, hgf⟩
end Go.Proofs.Ck

