/- The ledger: a client's list, collected. -/
import Derived.Test.YtpakfelekphbmaaList
import Derived.Test.YtpakfelekphbmaaLink
namespace Go.Proofs.Ck
open Go Go.RowKit

attribute [local go_sem] Oper.semAt_some wide_fn wide_depth wide_in_fn wide_in_depth
set_option maxRecDepth 100000 in
set_option maxHeartbeats 2000000 in
theorem seq_call {w : World} {v : Value} {f : Nat → Nat} (h : TxAny w v f) {c : Nat} (hc : c < 8) {l : List Nat} {n E : Nat} (hn : l.length = n) (hC : Chk f c l) (hE : f 16 = E) (hlen : n ≤ E / 48) (hE2 : E < 18446744073709551616) (hnz : ∀ a ∈ l, a ≠ 0 ∧ a < 4800) (hn2 : n ≤ 1000000)
    (B C : Nat) (hB : w.heap[B]? = some (.cells #[v] 65 (0, 0))) (hCc : w.heap[C]? = some (.cells #[.int .i64 (c : Int)] 3 (0, 0))) :
    Calls Try.prog 195 #[.slice none 0 0, .func (.func 196) #[] #[.pointer (some ⟨B, 0, none⟩), .pointer (some ⟨C, 0, none⟩)]] w fun e w' => ∃ A c', e = .returned (.slice A n c') ∧ Row (fun b => w.heap.size ≤ b) w' A n 1 (u64s l) ∧ Grow w w' := by
  have hga : Grow w (w.alloc (.cells #[.slice none 0 0] 27)) := (Below.refl _ _).alloc (Nat.le_refl _) _
  have hb1 := World.alloc_heap_new w (.cells #[.slice none 0 0] 27)
  obtain ⟨i22, hi3, hz3, hs3, hb3⟩ := info_parts info22
  have hBl := lt_of_heap hB
  have hCl := lt_of_heap hCc
  have hww := hga.size
  have hB3 := hga.heap hB
  have hC3 := hga.heap hCc
  have hl0 : u64s l = u64s (l.take n) := by rw [← hn, List.take_length]
  rw [hl0]
  refine calls_of_range Try.func195 rfl ?_
  simp only [Try.ntmps195, List.size_toArray, List.length_cons, List.length_nil, Nat.reduceAdd, Nat.reduceSub, Array.replicate_succ, Array.replicate_zero, List.push_toArray, List.append_toArray, List.nil_append, List.cons_append]
  gi_wp2
  generalize hwa : w.alloc (.cells #[.slice none 0 0] 27) = wa at *
  refine wp_range (gf := 196) (lb := #[.pointer (some ⟨B, 0, none⟩), .pointer (some ⟨C, 0, none⟩)]) rfl (fun args w => Try.call196 args w)
    (list_iter h hc hn hC hE hlen hE2 hnz B C wa hB3 hC3 hBl hCl (fun b hb => hga.block b hb))
    (by intro b hb; omega) (fun _ => rfl)
    (fun i X => ∃ vv, X.heap[w.heap.size]? = some (.cells #[vv] 27 (0, 0)) ∧ X.ownsRow w.heap.size 22 1 vv i (u64s (l.take i)) ∧ Grow w X)
    (fun _ _ _ => False)
    (fun i A D hs hm => ?_) (fun _ _ _ _ hs _ => hs)
    ⟨.slice none 0 0, hb1, World.ownsRow_nil _ _ _ _, hga⟩ ?a1 ?assign ?body ?done ?stop
  · obtain ⟨vv, k1, k2, k5⟩ := hs
    refine ⟨vv, hm.heap k1, own_moved k2 (fun b hb => ?_), hm.below k5 (by omega) k5.size⟩
    obtain ⟨cur, hc⟩ := own_cells k2 hb
    exact (hm.heap hc).trans hc.symm
  case assign =>
    intro l i X K hK
    gi_wp2
    exact hK
  case body =>
    rintro ly i X hi ⟨vv, k1, k2, k5⟩
    have hil : i < l.length := by omega
    have hnx : u64s (l.take (i + 1)) = u64s (l.take i) ++ [.int .u64 ((l[i] : Nat) : Int)] := by
      have e : l.take (i + 1) = l.take i ++ [l[i]] := by
        rw [List.take_add_one, List.getElem?_eq_getElem hil, Option.toList_some]
      rw [e]
      unfold u64s
      rw [List.map_append]
      rfl
    have HNX := Lib.hid hnx
    clear hnx hb1 hB3 hC3 hga
    have c1 : X.cell? ⟨w.heap.size, 0, none⟩ = some vv := by rw [cell_of_heap k1]; rfl
    have f1 := frozen_of_heap k1 0
    have hbase : w.heap.size ≤ X.heap.size := k5.size
    have q1 := lt_of_heap k1
    gi_wp2_with (gi_at_builtin; refine wpListIn_push X rfl (.tmp 8) (.tmp 10) 27 rfl w.heap.size 22 i22 _ 1 8 Try.underlying27 hi3 hz3 hs3 hb3 rfl (by decide) vv i _ rfl k2 #[.int .u64 ((l[i] : Nat) : Int)] rfl rfl (by simp [Value.oneCell']) rfl (by unfold maxLen; omega) (by omega) hbase ?_)
    intro v' w2 hown ho2
    obtain ⟨A', c', rfl⟩ : ∃ A c, v' = .slice A (i + 1) c := by
      obtain ⟨g, c, _, e, _⟩ := own_form hown (by omega)
      exact ⟨_, c, e⟩
    have hnT : ∀ {k : Nat} {c : Array Value} {t : TypeId} {f : Nat × Nat}, X.heap[k]? = some (.cells c t f) → t ≠ 22 → ¬ vv.ownBlock = some k := fun hk ht e => by
      obtain ⟨cur, hc⟩ := own_cells k2 e
      rw [hk] at hc
      cases hc
      exact ht rfl
    have k1' := ho2.heap k1 (hnT k1 (by decide))
    have k5' : Grow w w2 := Below.trans k5 (ho2.below hbase (own_ge k2))
    have hheld : Held (fun b => b < w.heap.size) X w2 := ⟨ho2.size, fun b hb => ho2.block b (by omega) (fun e => by
        have := own_ge k2 b e; omega), fun k o hk hc => ho2.heap hk (fun e => by
        obtain ⟨cur, hc'⟩ := own_cells k2 e
        rw [hk] at hc'
        cases hc'
        cases hc)⟩
    have c1' : w2.cell? ⟨w.heap.size, 0, none⟩ = some vv := by rw [cell_of_heap k1']; rfl
    have f1' := frozen_of_heap k1' 0
    clear c1 f1 k1 k5 ho2 hnT k2
    gi_wp2
    refine ⟨hheld.setCell (by simp) _, _, heap_setCell_row k1' _, ?_, k5'.setCell (by simp) _⟩
    rw [HNX.out]
    refine own_moved hown (fun b hb => ?_)
    obtain ⟨cur, hc⟩ := own_cells hown hb
    exact Below.heap_setCell _ _ _ _ (fun (e : b = w.heap.size) => by rw [e, k1'] at hc; cases hc)
  case done =>
    rintro D X hD ⟨vv, k1, k2, k5⟩ hK
    have c1 : X.cell? ⟨w.heap.size, 0, none⟩ = some vv := by rw [cell_of_heap k1]; rfl
    have k2' : (X.putObj D (.deferred none)).ownsRow w.heap.size 22 1 vv n (u64s (l.take n)) := own_moved k2 (fun b hb => by
      obtain ⟨cur, hc⟩ := own_cells k2 hb
      exact World.putObj_heap_other (fun e => by rw [e, hK] at hc; cases hc))
    obtain ⟨A, c, rfl, -, -, hr⟩ := Row.of_own k2'
    gi_wp2
    refine marks_ret hK (results_tmp rfl _ _ _) ?_
    have hm : Mild w.heap.size X (X.putObj D (.deferred none)) := Mild.putObj (n := w.heap.size) _ (by omega) hK rfl
    exact ⟨A, c, rfl, hr, hm.below k5 (Nat.le_refl _) k5.size⟩
  case stop =>
    rintro D c i X _ _ h _
    exact h.elim

set_option maxRecDepth 100000 in
theorem list_call {w : World} {v : Value} {f : Nat → Nat} (h : TxAny w v f) {c : Nat} (hc : c < 8) {l : List Nat} {n E : Nat} (hn : l.length = n) (hC : Chk f c l) (hE : f 16 = E) (hlen : n ≤ E / 48) (hE2 : E < 18446744073709551616) (hnz : ∀ a ∈ l, a ≠ 0 ∧ a < 4800) (hn2 : n ≤ 1000000) :
    Calls Try.prog 113 #[v, .int .i64 (c : Int)] w fun e w' => ∃ A c', e = .returned (.slice A n c') ∧ Row (fun b => w.heap.size ≤ b) w' A n 1 (u64s l) ∧ Grow w w' := by
  obtain ⟨p, rfl⟩ := h.ptr
  have hall : Calls Try.prog 171 #[.pointer p, .int .i64 (c : Int)] w fun e w' => ∃ B C, e = .returned (.func (.func 196) #[] #[.pointer (some ⟨B, 0, none⟩), .pointer (some ⟨C, 0, none⟩)]) ∧ w'.heap[B]? = some (.cells #[.pointer p] 65 (0, 0)) ∧ w'.heap[C]? = some (.cells #[.int .i64 (c : Int)] 3 (0, 0)) ∧ Grow w w' := by
    go_enter Try.func171, Try.ntmps171
    go_wp2
    go_ret
    refine ⟨_, _, rfl, (Below.heap_alloc _ _ _ (by simp)).trans (World.alloc_heap_new w _), ?_, ((Below.refl _ w).alloc (Nat.le_refl _) _).alloc (by simp) _⟩
    have := World.alloc_heap_new (w.alloc (.cells #[.pointer p] 65)) (.cells #[.int .i64 (c : Int)] 3)
    rwa [World.size_alloc] at this
  have hcol : ∀ {w1 : World} {B C : Nat}, Grow w w1 → w1.heap[B]? = some (.cells #[.pointer p] 65 (0, 0)) → w1.heap[C]? = some (.cells #[.int .i64 (c : Int)] 3 (0, 0)) → Calls Try.prog 170 #[.func (.func 196) #[] #[.pointer (some ⟨B, 0, none⟩), .pointer (some ⟨C, 0, none⟩)]] w1 fun e w' => ∃ A c', e = .returned (.slice A n c') ∧ Row (fun b => w1.heap.size ≤ b) w' A n 1 (u64s l) ∧ Grow w1 w' := by
    intro w1 B C hg hB hCC
    have hs := seq_call (h.grow hg) hc hn hC hE hlen hE2 hnz hn2 B C hB hCC
    clear h hC hnz
    go_enter Try.func170, Try.ntmps170
    go_wp2_with fail
    refine hs.mono ?_
    rintro e w2 ⟨A, c', rfl, hr, hg2⟩
    clear hs
    go_wp2
    go_ret
    exact ⟨A, c', rfl, hr, hg2⟩
  clear h hC hnz
  go_enter Try.func113, Try.ntmps113
  go_wp2_with fail
  refine hall.mono ?_
  rintro e w1 ⟨B, C, rfl, hB, hCC, hg1⟩
  have h2 := hcol hg1 hB hCC
  clear hall hcol hB hCC
  go_wp2_with fail
  refine h2.mono ?_
  rintro e w2 ⟨A, c', rfl, hr, hg2⟩
  clear h2
  go_wp2
  go_ret
  exact ⟨A, c', rfl, hr.mono fun b _ hb => Nat.le_trans hg1.size hb, hg1.trans hg2⟩
end Go.Proofs.Ck
