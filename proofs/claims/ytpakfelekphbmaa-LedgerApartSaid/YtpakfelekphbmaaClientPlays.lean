/- ClientPlays: the walk. -/
import Derived.Test.YtpakfelekphbmaaRefDo
import Derived.Test.YtpakfelekphbmaaRefAll
import Derived.Test.YtpakfelekphbmaaSame
import Derived.Deep.RegionHeld3
namespace Go.Proofs.Ck
open Go Go.RowKit

section
variable {base : Nat} {M0 : Nat → Prop} {w0 w w' : World} {v : Value} {σ : St} {bx : List Bx} {K : World → (Nat → Prop) → Prop}
/-- A call that leaves the words alone, and tells of new memory. -/
theorem Ctx.step {ι : Type} {g : FuncId} {args : Array Value} {R : ι → Ending → Prop} {L : ι → World → (Nat → Prop) → Prop} (h : Ctx base M0 w0 w v σ bx K) (hL : ∀ y, Stable (L y))
    (hc : ∀ X, (∀ b, X b → b < w.heap.size) → K w X → Calls Try.prog g args w fun e w' => ∃ y, R y e ∧ L y w' X ∧ Grow w w') :
    Calls Try.prog g args w fun e w' => ∃ y, R y e ∧ Ctx base M0 w0 w' v σ bx (L y) := by
  obtain ⟨hK, M, h1, h2, h3, h4⟩ := h
  refine (hc _ (fun b hb => ?_) h4).mono ?_
  · rcases hb with hb | hb
    · exact h1.lt b hb
    · obtain ⟨x, hx, rfl⟩ := List.mem_map.1 hb
      exact lt_of_heap (h3.at_ x hx).1
  · rintro e w' ⟨y, h5, h6, hg⟩
    have hn : Next M M w w' := Next.of_grow hg
    exact ⟨y, h5, hL y, M, h1.grow hg, h2.trans hn, h3.next hn, h6⟩
end

section
variable {base : Nat} {M0 : Nat → Prop} {w0 w w' : World} {v rv : Value} {σ τ : St} {bx : List Bx} {K : World → (Nat → Prop) → Prop}
end

end Go.Proofs.Ck
