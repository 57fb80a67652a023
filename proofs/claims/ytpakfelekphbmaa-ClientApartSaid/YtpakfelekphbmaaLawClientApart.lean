/- ClientApart: the row. -/
import Derived.Test.YtpakfelekphbmaaGLaw
import Derived.Test.YtpakfelekphbmaaClientWords
namespace Go.Proofs.Ytpakfelekphbmaa.clientApart
open Go Go.ChangeShapes Go.WideShapes Go.ChangeAt Go.RowKit Go.Proofs.Ck

set_option maxRecDepth 100000 in
theorem lifted (os : Os) (started : os.Started) (H : Type) (enc : TypeId × Value → H) :
    ReturnsInHanded {} Try.checked os 24 .any (Rows.clientApartSpec.pre6 enc Try.prog Try.f24 Rows.clientApartRow.domain false) (Rows.clientApartSpec.post enc Try.prog Try.f24 false true false false) := by
  refine law_lifted started (by kernel_rfl) Try.func24 (by kernel_rfl) rfl rfl ?_
    (ChangeSpec.witness6 (enc := enc) (C := Try.checked) false ⟨#[], #[.agg #[.int .i64 0, .int .i64 0], .agg #[.int .u64 0, .int .u64 0]], []⟩ 8 (by kernel_rfl) (by kernel_rfl) (by kernel_rfl) (by kernel_rfl)) ?_
  · intro ds h
    match ds, h with
    | [d0, d1], _ => exact ⟨rfl, rfl, rfl⟩
  intro W base args ds ps hval hA _ _
  rw [Try.params24] at hA hval
  obtain ⟨v0, vs0, d0, ds0, p0, q0, hargs, rfl, rfl, h0, r0⟩ := trodAll_cons hA
  obtain ⟨v1, vs1, d1, ds1, p1, q1, rfl, rfl, rfl, h1, r1⟩ := trodAll_cons r0
  obtain ⟨rfl, rfl, rfl⟩ := trodAll_nil r1
  obtain rfl : args = #[v0, v1] := by cases args; simp_all
  obtain ⟨c, d, rfl, _, _⟩ := open_ints2 Try.underlying101 Try.underlying3 (by kernel_rfl) (by kernel_rfl) (hval 0 101 v0 rfl rfl) h0
  obtain ⟨x, y, rfl, k0, k1⟩ := open_ints2 Try.underlying37 Try.underlying22 (by kernel_rfl) (by kernel_rfl) (hval 1 37 v1 rfl rfl) h1
  obtain ⟨p, rfl, hp⟩ := wf_u64 k0
  obtain ⟨q, rfl, hq⟩ := wf_u64 k1
  exact clientApart W c d p q

theorem over : Rows.clientApartRow.holds Try.pinned (OpenSpec.ofChange Rows.clientApartSpec) :=
  OpenClaim.holds_of_wide 24 Try.f24 rfl rfl rfl rfl rfl rfl rfl ⟨rfl, rfl, rfl, rfl, rfl⟩ rfl rfl rfl rfl rfl (by kernel_rfl) Try.func24 (joined_of (by kernel_rfl))
    (of_decide_eq_true (by kernel_rfl)) (by unfold Func.isWrapper; first | (rw [if_pos (by decide +kernel)]; kernel_rfl) | (rw [if_neg (by decide +kernel)]; exact ⟨rfl, rfl⟩))
    (fun os started H enc _ => lifted os started H enc)

theorem proved : Rows.ClientApartSaid := over
end Go.Proofs.Ytpakfelekphbmaa.clientApart
