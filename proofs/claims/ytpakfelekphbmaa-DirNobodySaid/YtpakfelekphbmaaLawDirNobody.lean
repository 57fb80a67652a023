/- DirNobody: the row. -/
import Derived.Test.YtpakfelekphbmaaGLaw
import Derived.Test.YtpakfelekphbmaaOpenDd
import Derived.Test.YtpakfelekphbmaaDirNobody
namespace Go.Proofs.Ytpakfelekphbmaa.dirNobody
open Go Go.ChangeShapes Go.WideShapes Go.ChangeAt Go.RowKit Go.Proofs.Ck

set_option maxRecDepth 100000 in
theorem lifted (os : Os) (started : os.Started) (H : Type) (enc : TypeId × Value → H) :
    ReturnsInHanded {} Try.checked os 41 .any (Rows.dirNobodySpec.pre6 enc Try.prog Try.f41 Rows.dirNobodyRow.domain false) (Rows.dirNobodySpec.post enc Try.prog Try.f41 false true false false) := by
  refine law_lifted started (by kernel_rfl) Try.func41 (by kernel_rfl) rfl rfl ?_
    (ChangeSpec.witness6 (enc := enc) (C := Try.checked) false ⟨#[], #[.slice none 0 0, .string ⟨#[]⟩, .int .u64 0], []⟩ 8 (by kernel_rfl) (by kernel_rfl) (by kernel_rfl) (by kernel_rfl)) ?_
  · intro ds h
    match ds, h with
    | [d0, d1, d2], _ => exact ⟨rfl, rfl, rfl⟩
  intro W base args ds ps hval hA _ _
  rw [Try.params41] at hA hval
  obtain ⟨v0, vs0, d0, ds0, p0, q0, hargs, rfl, rfl, h0, r0⟩ := trodAll_cons hA
  obtain ⟨v1, vs1, d1, ds1, p1, q1, rfl, rfl, rfl, h1, r1⟩ := trodAll_cons r0
  obtain ⟨v2, vs2, d2, ds2, p2, q2, rfl, rfl, rfl, h2, r2⟩ := trodAll_cons r1
  obtain ⟨rfl, rfl, rfl⟩ := trodAll_nil r2
  obtain rfl : args = #[v0, v1, v2] := by cases args; simp_all
  obtain ⟨D, l, m, rfl, hdl, hD, ho⟩ := open_dd (hval 0 144 v0 rfl rfl) h0
  obtain ⟨s, rfl⟩ := okWide_string Try.underlying9 (hval 1 9 v1 rfl rfl)
  obtain ⟨a2, rfl, rfl, rfl, w2⟩ := open_int Try.underlying22 (hval 2 22 v2 rfl rfl) h2
  obtain ⟨off, rfl, hoff⟩ := wf_u64 w2
  exact dirNobody s off hoff hD hdl ho

theorem over : Rows.dirNobodyRow.holds Try.pinned (OpenSpec.ofChange Rows.dirNobodySpec) :=
  OpenClaim.holds_of_wide 41 Try.f41 rfl rfl rfl rfl rfl rfl rfl ⟨rfl, rfl, rfl, rfl, rfl⟩ rfl rfl rfl rfl rfl (by kernel_rfl) Try.func41 (joined_of (by kernel_rfl))
    (of_decide_eq_true (by kernel_rfl)) (by unfold Func.isWrapper; first | (rw [if_pos (by decide +kernel)]; kernel_rfl) | (rw [if_neg (by decide +kernel)]; exact ⟨rfl, rfl⟩))
    (fun os started H enc _ => lifted os started H enc)

theorem proved : Rows.DirNobodySaid := over
end Go.Proofs.Ytpakfelekphbmaa.dirNobody
