/- Clients: all of them, one by one. -/
import Derived.Test.YtpakfelekphbmaaGClient
namespace Go.Proofs.Ck
open Go Go.RowKit
attribute [local go_sem] Oper.semAt_some wide_fn wide_depth wide_in_fn wide_in_depth

/-- What is thought of stays, as long as nothing of what was there is turned. -/
theorem TxAny.keep {w W : World} {v : Value} {f : Nat → Nat} (h : TxAny w v f) (hs : ∀ b, b < w.heap.size → W.heap[b]? = w.heap[b]?) : TxAny W v f := by
  rcases h with h | ⟨base, M, σ, ⟨tb, mb, T, sb, bb, cap, cs, h1, rfl, h3⟩, e⟩
  · exact .inl h
  · refine .inr ⟨base, _, σ, ⟨tb, mb, T, sb, bb, cap, cs, h1, rfl, ?_⟩, e⟩
    have go : ∀ {b : Nat} {o : Obj}, w.heap[b]? = some o → W.heap[b]? = some o := fun hb => (hs _ (lt_of_heap hb)).trans hb
    obtain ⟨es, c, hm, he⟩ := h3.map
    exact { h3 with
      tx := go h3.tx
      seg := h3.seg.moved (hs _ h3.seg.lt) (hs _ h3.seg.lt')
      map := ⟨es, c, go hm, he⟩
      turn := own_moved h3.turn (fun b hb => hs _ (h3.turn.lt b hb).2) }

set_option maxRecDepth 100000 in
set_option maxHeartbeats 1000000 in
theorem states_iter {w : World} {v : Value} {f : Nat → Nat} (h : TxAny w v f) (B : Nat) (W0 : World) (hB : W0.heap[B]? = some (.cells #[v] 65 (0, 0))) (hs : ∀ b, b < w.heap.size → W0.heap[b]? = w.heap[b]?) :
    Iter Try.prog 191 #[.pointer (some ⟨B, 0, none⟩)] 8 (fun i => #[.int .i64 (i : Int), .int .u64 ((f (64 + 416 * i) : Nat) : Int)]) (fun b => b < w.heap.size ∨ b = B) W0 := by
  intro l J Jx W hWz hT hJ hY hJx h0
  obtain ⟨p, rfl⟩ := h.ptr
  refine callsIn_of_wp Try.func191 rfl trivial ?_ rfl
  simp only [Try.ntmps191, List.size_toArray, List.length_cons, List.length_nil, Nat.reduceAdd, Nat.reduceSub, Array.replicate_succ, Array.replicate_zero, List.push_toArray, List.append_toArray, List.nil_append, List.cons_append]
  gi_wp2
  gi_loopw [4] (fun i wr => ∃ k : Nat, k ≤ 8 ∧ i = .int .i64 (k : Int) ∧ J k wr ∧ (∀ x, (x < w.heap.size ∨ x = B) → wr.heap[x]? = W0.heap[x]?))
    (fun i _ => 8 - (intOf i).toNat)
  case atStart => exact ⟨0, Nat.zero_le _, rfl, h0, hT⟩
  case round =>
    obtain ⟨k, hk, rfl, hJs, hTr⟩ := hrel
    have hBr : wr.heap[B]? = some (.cells #[.pointer p] 65 (0, 0)) := (hTr B (.inr rfl)).trans hB
    have hc0 : wr.cell? ⟨B, 0, none⟩ = some (.pointer p) := by rw [cell_of_heap hBr]; rfl
    by_cases hlt : k < 8
    · have hst := state_ok (h.keep (W := wr) (fun b hb => (hTr b (.inl hb)).trans (hs b hb))) k hlt
      have hYk := fun w1 => hY k w1 hlt
      clear hY
      generalize f (64 + 416 * k) = y at *
      have g0 : decide ((k : Int) < 8) = true := decide_eq_true (by omega)
      gi_wp2_with fail
      refine (ranged hst).mono ?_
      rintro e w1 ⟨rfl, hg⟩
      obtain ⟨fn, tmps, assign, body, hy, hR⟩ := hYk w1 (hJ _ _ _ hJs hg)
      have hsz := lt_of_heap hBr
      have hT1 : ∀ x, (x < w.heap.size ∨ x = B) → w1.heap[x]? = wr.heap[x]? := fun x hx => hg.block x (by
        rcases hx with hx | rfl
        · have h1 := hTr x (.inl hx); rw [hs x hx] at h1
          exact (Array.getElem?_eq_some_iff.1 (h1.trans (Array.getElem?_eq_getElem hx))).1
        · exact hsz)
      gi_wp2
      refine hR.mono ?_
      rintro e W3 ⟨hz3, hT3, (⟨rfl, hJ3⟩ | ⟨rfl, hJx3⟩)⟩
      · gi_wp2
        go_roundw
        case rel => exact ⟨k + 1, by omega, by go_num, hJ3, fun x hx => (hT3 x hx).trans ((hT1 x hx).trans (hTr x hx))⟩
        case measure => simp [intOf]; omega
      · gi_wp2
        refine bodyPost_ret (results_none rfl _ _ _) rfl ?_
        exact ⟨⟨_, rfl⟩, .inr ⟨k, hlt, hJx3⟩⟩
    · obtain rfl : k = 8 := by omega
      have g0 : decide (((8 : Nat) : Int) < 8) = false := decide_eq_false (by omega)
      gi_wp2
      go_end0
      exact ⟨⟨_, rfl⟩, .inl hJs⟩
end Go.Proofs.Ck
