/- Words that stay fine as they are stored. -/
import Derived.Test.YtpakfelekphbmaaRefS
namespace Go.Proofs.Ck
open Go Go.RowKit

structure FineS (σ : St) : Prop where
  words : σ.W.length = 600
  keys : ∀ k ∈ σ.p.map (·.1), k % 8 = 0 ∧ k / 8 < 600
  nodup : (σ.p.map (·.1)).Nodup
theorem FineS.fine {σ : St} (h : FineS σ) : Fine σ := by
  have hn : ((σ.p.map (·.1)).map (· / 8)).Nodup := by
    rw [List.Nodup, List.pairwise_map]
    refine List.Pairwise.imp_of_mem ?_ h.nodup
    intro a b ha hb hab e
    have h1 := (h.keys a ha).1
    have h2 := (h.keys b hb).1
    omega
  have := nodup_lt_length 600 _ hn (fun x hx => by
    obtain ⟨k, hk, rfl⟩ := List.mem_map.1 hx
    exact (h.keys k hk).2)
  rw [List.length_map, List.length_map] at this
  exact ⟨h.words, this, h.nodup⟩
theorem FineS.store {σ : St} (h : FineS σ) (off x : Nat) : FineS (σ.store off x) := by
  unfold St.store
  split
  · rename_i hs
    rw [h.words] at hs
    refine ⟨h.words, ?_, ?_⟩
    · intro k hk
      simp only [pput_keys] at hk
      split at hk
      · exact h.keys k hk
      · rcases List.mem_append.1 hk with hk | hk
        · exact h.keys k hk
        · rw [List.mem_singleton] at hk; subst hk; exact hs
    · simp only [pput_keys]
      split
      · exact h.nodup
      · rename_i hl
        rw [List.nodup_append]
        refine ⟨h.nodup, by simp, ?_⟩
        intro a ha b hb
        rw [List.mem_singleton] at hb
        subst hb
        intro e
        subst e
        refine hl ?_
        exact plook_mem.2 ha
  · exact h
end Go.Proofs.Ck
