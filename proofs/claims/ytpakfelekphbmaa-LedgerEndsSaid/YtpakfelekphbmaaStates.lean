/- Clients: all of them, one by one. -/
import Derived.Test.YtpakfelekphbmaaGClient
namespace Go.Proofs.Ck
open Go Go.RowKit
attribute [local go_sem] Oper.semAt_some wide_fn wide_depth wide_in_fn wide_in_depth

/-- What is thought of stays, as long as nothing of what was there is turned. -/
theorem TxAny.keep {w W : World} {v : Value} {f : Nat → Nat} (h : TxAny w v f) (hs : ∀ b, b < w.heap.size → W.heap[b]? = w.heap[b]?) : TxAny W v f := by
  rcases h with h | ⟨base, M, σ, ⟨tb, mb, T, sb, bb, cap, cs, h1, rfl, h3⟩, e⟩
  · exact .inl h
  · refine .inr ⟨base, _, σ, ⟨tb, mb, T, sb, bb, cap, cs, h1, rfl, ?_⟩, e⟩
    have go : ∀ {b : Nat} {o : Obj}, w.heap[b]? = some o → W.heap[b]? = some o := fun hb => (hs _ (lt_of_heap hb)).trans hb
    obtain ⟨es, c, hm, he⟩ := h3.map
    exact { h3 with
      tx := go h3.tx
      seg := h3.seg.moved (hs _ h3.seg.lt) (hs _ h3.seg.lt')
      map := ⟨es, c, go hm, he⟩
      turn := own_moved h3.turn (fun b hb => hs _ (h3.turn.lt b hb).2) }

end Go.Proofs.Ck
