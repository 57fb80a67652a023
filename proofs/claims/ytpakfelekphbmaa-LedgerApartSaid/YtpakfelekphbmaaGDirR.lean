/- Parts of the proofs of this seat's laws. -/
import Derived.Test.YtpakfelekphbmaaGDirW
import Derived.Test.YtpakfelekphbmaaRefAll
import Derived.Test.YtpakfelekphbmaaRefDo
import Derived.Test.YtpakfelekphbmaaFineS

namespace Go.Proofs.Ck
open Go Go.RowKit

end Go.Proofs.Ck

namespace Go.Proofs.Ck
open Go Go.RowKit

end Go.Proofs.Ck

namespace Go.Proofs.Ck
open Go Go.RowKit

end Go.Proofs.Ck

namespace Go.Proofs.Ck
open Go Go.RowKit

end Go.Proofs.Ck

namespace Go.Proofs.Ck
open Go Go.RowKit

theorem refS_set {w : World} {q : Nat} {X : Nat → Prop} {σ : St} {rv a b : Value} (hr : RefS rv σ w X) (hq : X q) : RefS rv σ ((w.setCell ⟨q, 0, none⟩ a).setCell ⟨q, 1, none⟩ b) X := by
  have ho : Only (fun x => x = q) w ((w.setCell ⟨q, 0, none⟩ a).setCell ⟨q, 1, none⟩ b) :=
    Only.setCell (S := fun x => x = q) (p := ⟨q, 1, none⟩) (Only.setCell (S := fun x => x = q) (p := ⟨q, 0, none⟩) (Only.refl _ _) rfl _) rfl _
  exact stable_refS _ _ _ _ ⟨ho.mono fun k _ hk => by subst hk; exact hq, fun b hb => .inl hb⟩ hr
theorem heap_set2 {w : World} {q k : Nat} {o : Obj} {a b : Value} (hk : w.heap[k]? = some o) (hq : k ≠ q) : ((w.setCell ⟨q, 0, none⟩ a).setCell ⟨q, 1, none⟩ b).heap[k]? = some o :=
  (Below.heap_setCell _ _ _ _ hq).trans ((Below.heap_setCell _ _ _ _ hq).trans hk)
theorem heap_same2 {w : World} {q : Nat} {a b u0 u1 : Value} (hk : w.heap[q]? = some (.cells #[u0, u1] 67 (0, 0))) : ((w.setCell ⟨q, 0, none⟩ a).setCell ⟨q, 1, none⟩ b).heap[q]? = some (.cells #[a, b] 67 (0, 0)) :=
  heap_setCell_row (heap_setCell_row hk (i := 0) _) (i := 1) _
theorem grow_set2 {w w2 : World} {q : Nat} {a b : Value} (hg : Grow w w2) (hq : w.heap.size ≤ q) : Grow w ((w2.setCell ⟨q, 0, none⟩ a).setCell ⟨q, 1, none⟩ b) :=
  (hg.setCell hq _).setCell hq _

theorem refS_less {w : World} {X Y : Nat → Prop} {σ : St} {rv : Value} (h : RefS rv σ w fun b => X b ∨ Y b) : RefS rv σ w X :=
  stable_refS _ _ _ _ (Next.less fun _ hb => .inl hb) h
end Go.Proofs.Ck

namespace Go.Proofs.Ck
open Go Go.RowKit

end Go.Proofs.Ck
