/- Clients: those of a state. -/
import Derived.Test.YtpakfelekphbmaaStates
namespace Go.Proofs.Ck
open Go Go.RowKit

def i64s (l : List Nat) : List Value := l.map fun n : Nat => .int .i64 (n : Int)
theorem i64s_length (l : List Nat) : (i64s l).length = l.length := by simp [i64s]
theorem i64s_snoc (l : List Nat) (n : Nat) : i64s (l ++ [n]) = i64s l ++ [.int .i64 (n : Int)] := by simp [i64s]
/-- The first k clients that are of a state. -/
def sts (f : Nat → Nat) (s k : Nat) : List Nat := (List.range k).filter fun c => decide (f (64 + 416 * c) = s)
theorem sts_hit {f : Nat → Nat} {s k : Nat} (h : f (64 + 416 * k) = s) : sts f s (k + 1) = sts f s k ++ [k] := by simp [sts, List.range_succ, h]
theorem sts_miss {f : Nat → Nat} {s k : Nat} (h : f (64 + 416 * k) ≠ s) : sts f s (k + 1) = sts f s k := by simp [sts, List.range_succ, h]
theorem sts_len (f : Nat → Nat) (s k : Nat) : (sts f s k).length ≤ k := Nat.le_trans (List.length_filter_le _ _) (by simp)

theorem states_call (w : World) (p : Option Addr) : Calls Try.prog 165 #[.pointer p] w fun e w' => ∃ B, e = .returned (.func (.func 191) #[] #[.pointer (some ⟨B, 0, none⟩)]) ∧ w.heap.size ≤ B ∧ w'.heap[B]? = some (.cells #[.pointer p] 65 (0, 0)) ∧ Grow w w' := by
  go_enter Try.func165, Try.ntmps165
  go_wp2
  go_ret
  exact ⟨_, rfl, Nat.le_refl _, World.alloc_heap_new w _, (Below.refl _ _).alloc (Nat.le_refl _) _⟩

theorem info3 : (Try.prog.info? 3).map (fun i => (i.zero, i.size, i.bytes)) = some (some (.int .i64 0), 1, 8) := by kernel_rfl

attribute [local go_sem] Oper.semAt_some wide_fn wide_depth wide_in_fn wide_in_depth
set_option maxRecDepth 100000 in
set_option maxHeartbeats 1000000 in
theorem all_call {w : World} {v : Value} {f : Nat → Nat} (h : TxAny w v f) (s : Nat) :
    Calls Try.prog 105 #[v, .int .u64 (s : Int)] w fun e w' => ∃ A c, e = .returned (.slice A (sts f s 8).length c) ∧ Row (fun b => w.heap.size ≤ b) w' A (sts f s 8).length 1 (i64s (sts f s 8)) ∧ Grow w w' := by
  obtain ⟨p, rfl⟩ := h.ptr
  have hg0 : Grow w ((w.alloc (.cells #[.int .u64 (s : Int)] 22)).alloc (.cells #[.slice none 0 0] 112)) := ((Below.refl _ w).alloc (Nat.le_refl _) _).alloc (by simp) _
  refine calls_of_range Try.func105 rfl ?_
  simp only [Try.ntmps105, List.size_toArray, List.length_cons, List.length_nil, Nat.reduceAdd, Nat.reduceSub, Array.replicate_succ, Array.replicate_zero, List.push_toArray, List.append_toArray, List.nil_append, List.cons_append]
  gi_wp2_with (gi_at_call 165; refine (ranged (states_call _ _)).mono ?_; rintro e w1 ⟨B, rfl, hBge, hB, hg1⟩)
  obtain ⟨i3, hi3, hz3, hs3, hb3⟩ := info_parts info3
  have hb0 : ((w.alloc (.cells #[.int .u64 (s : Int)] 22)).alloc (.cells #[.slice none 0 0] 112)).heap[w.heap.size]? = some (.cells #[.int .u64 (s : Int)] 22 (0, 0)) := (Below.heap_alloc _ _ _ (by simp)).trans (World.alloc_heap_new w _)
  have hb1 : ((w.alloc (.cells #[.int .u64 (s : Int)] 22)).alloc (.cells #[.slice none 0 0] 112)).heap[w.heap.size + 1]? = some (.cells #[.slice none 0 0] 112 (0, 0)) := by
    have := World.alloc_heap_new (w.alloc (.cells #[.int .u64 (s : Int)] 22)) (.cells #[.slice none 0 0] 112)
    rwa [World.size_alloc] at this
  have hb0 := hg1.heap hb0
  have hb1 := hg1.heap hb1
  have hBge : w.heap.size + 2 ≤ B := by simpa using hBge
  have hg := hg0.trans hg1
  have hsz : w.heap.size + 2 ≤ w1.heap.size := by have := lt_of_heap hB; omega
  clear hg0 hg1
  refine wp_range (gf := 191) (lb := #[.pointer (some ⟨B, 0, none⟩)]) rfl (fun args w => Try.call191 args w)
    (states_iter h B w1 hB (fun b hb => hg.block b hb))
    (by rintro b (hb | rfl); omega; exact lt_of_heap hB) (fun _ => rfl)
    (fun i X => ∃ vv, X.heap[w.heap.size + 1]? = some (.cells #[vv] 112 (0, 0)) ∧ X.ownsRow w.heap.size 3 1 vv (sts f s i).length (i64s (sts f s i)) ∧ X.heap[w.heap.size]? = some (.cells #[.int .u64 (s : Int)] 22 (0, 0)) ∧ X.heap[B]? = some (.cells #[.pointer p] 65 (0, 0)) ∧ Grow w X)
    (fun _ _ _ => False)
    (fun i A C hs hm => ?_) (fun _ _ _ _ hs _ => hs)
    ⟨.slice none 0 0, hb1, World.ownsRow_nil _ _ _ _, hb0, hB, hg⟩
    (fun i => { tmps := #[Value.pointer p, Value.int IntKind.u64 ↑s, undef, Value.pointer (some { block := w.heap.size, off := 0 }),
          Value.slice none 0 0, Value.pointer (some { block := w.heap.size + 1, off := 0 }), .int .i64 (i : Int), .int .u64 ((f (64 + 416 * i) : Nat) : Int),
          Value.pointer p, Value.func (Fn.func 191) #[] #[Value.pointer (some { block := B, off := 0 })], .int .i64 (i : Int), .int .u64 ((f (64 + 416 * i) : Nat) : Int),
          undef, undef, undef, undef, undef, undef, undef, undef], defers := [] }) ?assign ?body ?done ?stop
  · obtain ⟨vv, k1, k2, k3, k4, k5⟩ := hs
    refine ⟨vv, hm.heap k1, own_moved k2 (fun b hb => ?_), hm.heap k3, hm.heap k4, hm.below k5 (by omega) k5.size⟩
    obtain ⟨cur, hc⟩ := own_cells k2 hb
    exact (hm.heap hc).trans hc.symm
  case assign =>
    intro l i X K hK
    gi_wp2
    exact hK
  case body =>
    rintro l i X hi ⟨vv, k1, k2, k3, k4, k5⟩
    have c0 : X.cell? ⟨w.heap.size, 0, none⟩ = some (.int .u64 (s : Int)) := by rw [cell_of_heap k3]; rfl
    have c1 : X.cell? ⟨w.heap.size + 1, 0, none⟩ = some vv := by rw [cell_of_heap k1]; rfl
    have f1 := frozen_of_heap k1 0
    have hln := sts_len f s i
    by_cases hh : f (64 + 416 * i) = s
    · have hst := sts_hit hh
      have HST := Lib.hid hst
      have t0 : ((f (64 + 416 * i) : Int) == s) = true := by rw [beq_iff_eq]; omega
      clear hst
      generalize sts f s i = L at *
      generalize f (64 + 416 * i) = y at *
      clear hh
      have hbase : w.heap.size ≤ X.heap.size := k5.size
      have q1 := lt_of_heap k1
      gi_wp2_with (gi_at_builtin; refine wpListIn_push X rfl (.tmp 15) (.tmp 17) 112 rfl w.heap.size 3 i3 _ 1 8 Try.underlying112 hi3 hz3 hs3 hb3 rfl (by decide) vv L.length _ rfl k2 #[.int .i64 (i : Int)] rfl rfl (by simp [Value.oneCell']) rfl (by unfold maxLen; omega) (by omega) hbase ?_)
      intro v' w2 hown ho2
      obtain ⟨A', c', rfl⟩ : ∃ A c, v' = .slice A (L.length + 1) c := by
        obtain ⟨g, c, _, e, _⟩ := own_form hown (by omega)
        exact ⟨_, c, e⟩
      have hnT : ∀ {k : Nat} {c : Array Value} {t : TypeId} {f : Nat × Nat}, X.heap[k]? = some (.cells c t f) → t ≠ 3 → ¬ vv.ownBlock = some k := fun hk ht e => by
        obtain ⟨cur, hc⟩ := own_cells k2 e
        rw [hk] at hc
        cases hc
        exact ht rfl
      have k1' := ho2.heap k1 (hnT k1 (by decide))
      have k3' := ho2.heap k3 (hnT k3 (by decide))
      have k4' := ho2.heap k4 (hnT k4 (by decide))
      have k5' : Grow w w2 := Below.trans k5 (ho2.below hbase (own_ge k2))
      have hheld : Held (fun b => b < w.heap.size ∨ b = B) X w2 := ⟨ho2.size, fun b hb => ho2.block b (by rcases hb with hb | rfl; omega; exact lt_of_heap k4) (fun e => by
        rcases hb with hb | rfl
        · have := own_ge k2 b e; omega
        · exact hnT k4 (by decide) e), fun k o hk hc => ho2.heap hk (fun e => by
          obtain ⟨cur, hc'⟩ := own_cells k2 e
          rw [hk] at hc'
          cases hc'
          cases hc)⟩
      have c1' : w2.cell? ⟨w.heap.size + 1, 0, none⟩ = some vv := by rw [cell_of_heap k1']; rfl
      have f1' := frozen_of_heap k1' 0
      clear c0 c1 f1 k1 k3 k4 k5 ho2 hnT k2
      gi_wp2
      have hnb : ¬ w.heap.size + 1 = B := by omega
      refine ⟨hheld.setCell (by simp; omega) _, _, heap_setCell_row k1' _, ?_, ?_, ?_, k5'.setCell (by simp) _⟩
      · rw [HST.out, List.length_append, i64s_snoc]
        refine own_moved hown (fun b hb => ?_)
        obtain ⟨cur, hc⟩ := own_cells hown hb
        exact Below.heap_setCell _ _ _ _ (fun (e : b = w.heap.size + 1) => by rw [e, k1'] at hc; cases hc)
      · exact (Below.heap_setCell _ _ _ _ (by simp)).trans k3'
      · exact (Below.heap_setCell _ _ _ _ (by simp; omega)).trans k4'
    · have hst := sts_miss hh
      have t0 : ((f (64 + 416 * i) : Int) == s) = false := by rw [beq_eq_false_iff_ne]; omega
      have HST := Lib.hid hst
      clear hst
      generalize f (64 + 416 * i) = y at *
      clear hh
      gi_wp2
      refine ⟨Held.refl _ _, vv, k1, ?_, k3, k4, k5⟩
      rw [HST.out]
      exact k2
  case done =>
    rintro D X hD ⟨vv, k1, k2, k3, k4, k5⟩ hK
    have c1 : X.cell? ⟨w.heap.size + 1, 0, none⟩ = some vv := by rw [cell_of_heap k1]; rfl
    have k2' : (X.putObj D (.deferred none)).ownsRow w.heap.size 3 1 vv (sts f s 8).length (i64s (sts f s 8)) := own_moved k2 (fun b hb => by
      obtain ⟨cur, hc⟩ := own_cells k2 hb
      exact World.putObj_heap_other (fun e => by rw [e, hK] at hc; cases hc))
    obtain ⟨A, c, rfl, -, -, hr⟩ := Row.of_own k2'
    gi_wp2
    refine marks_ret hK (results_tmp rfl _ _ _) ?_
    have hm : Mild w.heap.size X (X.putObj D (.deferred none)) := Mild.putObj (n := w.heap.size) _ (by omega) hK rfl
    exact ⟨A, c, rfl, hr, hm.below k5 (Nat.le_refl _) k5.size⟩
  case stop =>
    rintro D c i X _ _ h _
    exact h.elim
end Go.Proofs.Ck
