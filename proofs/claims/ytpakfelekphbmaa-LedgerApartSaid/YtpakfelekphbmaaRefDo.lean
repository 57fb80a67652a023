/- The document's clients, word for word: a deed. -/
import Derived.Test.YtpakfelekphbmaaRefS
namespace Go.Proofs.Ck
open Go Go.RowKit

/-- A pair of lists, laid into the box that holds the answer. -/
theorem fin67 {w w2 : World} {q : Nat} {X : Nat → Prop} {σ : St} {a b u0 u1 : Value} (hT : w2.heap[q]? = some (.cells #[u0, u1] 67 (0, 0))) (hr : RefS (.agg #[a, b]) σ w2 (fun x => X x ∨ x = q)) (hg : Grow w w2) (hq : w.heap.size ≤ q) :
    ((w2.setCell ⟨q, 0, none⟩ a).setCell ⟨q, 1, none⟩ b).heap[q]? = some (.cells #[a, b] 67 (0, 0)) ∧ RefS (.agg #[a, b]) σ ((w2.setCell ⟨q, 0, none⟩ a).setCell ⟨q, 1, none⟩ b) X ∧ Grow w ((w2.setCell ⟨q, 0, none⟩ a).setCell ⟨q, 1, none⟩ b) := by
  have ho : Only (fun x => x = q) w2 ((w2.setCell ⟨q, 0, none⟩ a).setCell ⟨q, 1, none⟩ b) :=
    Only.setCell (S := fun x => x = q) (p := ⟨q, 1, none⟩) (Only.setCell (S := fun x => x = q) (p := ⟨q, 0, none⟩) (Only.refl _ _) rfl _) rfl _
  exact ⟨heap_setCell_row (heap_setCell_row hT (i := 0) _) (i := 1) _, stable_refS _ _ _ _ ⟨ho.mono fun k _ hk => .inr hk, fun b hb => .inl (.inl hb)⟩ hr, Below.trans hg (ho.below hg.size (fun b hb => by omega))⟩
theorem results_cell_tmp67 {fn : Func} {R : Ending → World → Prop} {tmps : Array Value} {p u : Tmp} {W : World} {g : Nat} {cs : Array Value} {fr : Nat × Nat} {x : Value} (hf : fn.results = #[.cell p 67, .tmp u])
    (hp : tmps.getD p undef = .pointer (some ⟨g, 0, none⟩)) (hu : tmps.getD u undef = x) (hg : W.heap[g]? = some (.cells cs 67 fr)) (h2 : cs.size = 2) (hR : R (.returned (.tuple #[.agg cs, x])) W) :
    bodyPost Try.prog fn R .ret ⟨tmps, []⟩ W := by
  refine bodyPost_ret (v := .tuple #[.agg cs, x]) ?_ rfl hR
  have hp' : tmps[p]?.getD undef = .pointer (some ⟨g, 0, none⟩) := by simpa using hp
  have hu' : tmps[u]?.getD undef = x := by simpa using hu
  rw [results_cell_tmp hf]
  simp [hp', hu', asAddr, Result.andThen, run_loadVar_row W g 67 67 cs fr _ hg Try.underlying67 rfl (info67.trans (by rw [h2]))]

/-- What the document's deed answers. -/
def RDid (w : World) (X : Nat → Prop) (σ : St) (E : Nat) (e : Ending) (w' : World) : Prop := ∃ rv', e = .returned (.tuple #[rv', .int .i64 (E : Int)]) ∧ RefS rv' σ w' X ∧ Grow w w'

end Go.Proofs.Ck
