/- DirAll: the row. -/
import Derived.Test.YtpakfelekphbmaaGLaw
import Derived.Test.YtpakfelekphbmaaOpenDd
import Derived.Test.YtpakfelekphbmaaDirAll
namespace Go.Proofs.Ytpakfelekphbmaa.dirAll
open Go Go.ChangeShapes Go.WideShapes Go.ChangeAt Go.RowKit Go.Proofs.Ck

set_option maxRecDepth 100000 in
theorem lifted (os : Os) (started : os.Started) (H : Type) (enc : TypeId × Value → H) :
    ReturnsInHanded {} Try.checked os 40 .any (Rows.dirAllSpec.pre6 enc Try.prog Try.f40 Rows.dirAllRow.domain false) (Rows.dirAllSpec.post enc Try.prog Try.f40 false true false false) := by
  refine law_lifted started (by kernel_rfl) Try.func40 (by kernel_rfl) rfl rfl ?_
    (ChangeSpec.witness6 (enc := enc) (C := Try.checked) false ⟨#[], #[.slice none 0 0], []⟩ 8 (by kernel_rfl) (by kernel_rfl) (by kernel_rfl) (by kernel_rfl)) ?_
  · intro ds h
    match ds, h with
    | [d0], _ => exact ⟨rfl, rfl, rfl⟩
  intro W base args ds ps hval hA _ _
  rw [Try.params40] at hA hval
  obtain ⟨v0, vs0, d0, ds0, p0, q0, hargs, rfl, rfl, h0, r0⟩ := trodAll_cons hA
  obtain ⟨rfl, rfl, rfl⟩ := trodAll_nil r0
  obtain rfl : args = #[v0] := by cases args; simp_all
  obtain ⟨D, l, m, rfl, hdl, hD, ho⟩ := open_dd (hval 0 144 v0 rfl rfl) h0
  exact dirAll hD hdl ho

theorem over : Rows.dirAllRow.holds Try.pinned (OpenSpec.ofChange Rows.dirAllSpec) :=
  OpenClaim.holds_of_wide 40 Try.f40 rfl rfl rfl rfl rfl rfl rfl ⟨rfl, rfl, rfl, rfl, rfl⟩ rfl rfl rfl rfl rfl (by kernel_rfl) Try.func40 (joined_of (by kernel_rfl))
    (of_decide_eq_true (by kernel_rfl)) (by unfold Func.isWrapper; first | (rw [if_pos (by decide +kernel)]; kernel_rfl) | (rw [if_neg (by decide +kernel)]; exact ⟨rfl, rfl⟩))
    (fun os started H enc _ => lifted os started H enc)

theorem proved : Rows.DirAllSaid := over
end Go.Proofs.Ytpakfelekphbmaa.dirAll
