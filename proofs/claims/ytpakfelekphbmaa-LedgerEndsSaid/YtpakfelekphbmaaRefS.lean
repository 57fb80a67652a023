/- The document's clients, word for word. -/
import Derived.Test.YtpakfelekphbmaaClientS
import Derived.Test.YtpakfelekphbmaaRef8
namespace Go.Proofs.Ck
open Go Go.RowKit

theorem RefS.grow {rv : Value} {σ : St} {w w' : World} {X : Nat → Prop} (h : RefS rv σ w X) (hg : Grow w w') : RefS rv σ w' X := stable_refS _ _ _ _ (Next.of_grow hg) h
theorem RefS.agg {rv : Value} {σ : St} {w : World} {X : Nat → Prop} (h : RefS rv σ w X) : ∃ A n c B m d, rv = .agg #[.slice A n c, .slice B m d] := by
  obtain ⟨A, c, B, d, h1, _⟩ := h
  exact ⟨A, _, c, B, _, d, h1⟩
/-- Words that may be thought of over a segment of 4800 bytes. -/
structure Fine (σ : St) : Prop where
  words : σ.W.length = 600
  few : σ.p.length ≤ 600
  nodup : (σ.p.map (·.1)).Nodup
theorem RefS.ref {rv : Value} {σ : St} {w : World} {X : Nat → Prop} (h : RefS rv σ w X) (hf : Fine σ) : RefF rv σ.load w X := by
  obtain ⟨A, c, B, d, h1, h2, h3, h4⟩ := h
  exact ⟨σ, A, c, B, d, h1, h2, h3, h4, hf.words, hf.few, hf.nodup, rfl⟩
/-- The document's store. -/
theorem rstoreS {rv : Value} {σ : St} {w : World} {X : Nat → Prop} (h : RefS rv σ w X) (hX : ∀ b, X b → b < w.heap.size) (hf : Fine σ) (off x : Nat) (ho : off < 18446744073709551616) :
    Calls Try.prog 156 #[rv, .int .u64 (off : Int), .int .u64 (x : Int)] w fun e w' => ∃ rv', e = .returned rv' ∧ RefS rv' (σ.store off x) w' X ∧ Grow w w' := by
  obtain ⟨A, c, B, d, rfl, h2, h3, h4⟩ := h
  refine (rtx_store h2 h3 h4 off x ho (by rw [hf.words]; omega) (by have := hf.few; omega) hf.nodup).mono ?_
  rintro e w' ⟨⟨B', d', rfl, k1, k2⟩, hg⟩
  refine ⟨_, rfl, ⟨A, c, B', d', by rw [store_W], ?_, k2.mono fun b _ hb hx => ?_, k1⟩, hg⟩
  · rw [store_W]; exact h2.grow hg
  · rcases hb with hb | hb
    · exact hb hx
    · have := hX b hx; omega

end Go.Proofs.Ck
