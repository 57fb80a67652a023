/- SegDiff: the row. -/
import Derived.Test.YtpakfelekphbmaaOpen
import Derived.Test.YtpakfelekphbmaaSegDiff
namespace Go.Proofs.Ytpakfelekphbmaa.segDiff
open Go Go.ChangeShapes Go.WideShapes Go.ChangeAt Go.RowKit Go.Proofs.Ck

set_option maxRecDepth 100000 in
theorem lifted (os : Os) (started : os.Started) (H : Type) (enc : TypeId × Value → H) :
    ReturnsInHanded {} Try.checked os 4 .any (Rows.segDiffSpec.pre6 enc Try.prog Try.f4 Rows.segDiffRow.domain false) (Rows.segDiffSpec.post enc Try.prog Try.f4 false true false false) := by
  refine law_lifted started (by kernel_rfl) Try.func4 (by kernel_rfl) rfl rfl ?_
    (ChangeSpec.witness6 (enc := enc) (C := Try.checked) false ⟨#[], #[.agg #[.int .u64 0, .int .u64 0], .slice none 0 0, .slice none 0 0], []⟩ 8 (by kernel_rfl) (by kernel_rfl) (by kernel_rfl) (by kernel_rfl)) ?_
  · intro ds h
    match ds, h with
    | [d0, d1, d2], _ => exact ⟨rfl, rfl, rfl⟩
  intro W base args ds ps hval hA _ _
  rw [Try.params4] at hA hval
  obtain ⟨v0, vs0, d0, ds0, p0, q0, hargs, rfl, rfl, h0, r0⟩ := trodAll_cons hA
  obtain ⟨v1, vs1, d1, ds1, p1, q1, rfl, rfl, rfl, h1, r1⟩ := trodAll_cons r0
  obtain ⟨v2, vs2, d2, ds2, p2, q2, rfl, rfl, rfl, h2, r2⟩ := trodAll_cons r1
  obtain ⟨rfl, rfl, rfl⟩ := trodAll_nil r2
  obtain rfl : args = #[v0, v1, v2] := by cases args; simp_all
  obtain ⟨x, y, rfl, w0, w1⟩ := open_ints2 Try.underlying37 Try.underlying22 (by kernel_rfl) (by kernel_rfl) (hval 0 37 v0 rfl rfl) h0
  obtain ⟨n0, rfl, k0⟩ := wf_u64 w0
  obtain ⟨n1, rfl, k1⟩ := wf_u64 w1
  obtain ⟨A0, l0, c0, rfl, _, m0, _, hl0, x0⟩ := open_puts Try.underlying23 Try.underlying50 (by kernel_rfl) rfl rfl (by kernel_rfl) (by kernel_rfl) Try.underlying22 Try.underlying22 (hval 1 23 v1 rfl rfl) h1
  obtain ⟨A1, l1, c1, rfl, _, m1, _, hl1, x1⟩ := open_puts Try.underlying23 Try.underlying50 (by kernel_rfl) rfl rfl (by kernel_rfl) (by kernel_rfl) Try.underlying22 Try.underlying22 (hval 2 23 v2 rfl rfl) h2
  exact segDiff n0 n1 k0 k1 hl0 hl1 m0 m1 x0 x1

theorem over : Rows.segDiffRow.holds Try.pinned (OpenSpec.ofChange Rows.segDiffSpec) :=
  OpenClaim.holds_of_wide 4 Try.f4 rfl rfl rfl rfl rfl rfl rfl ⟨rfl, rfl, rfl, rfl, rfl⟩ rfl rfl rfl rfl rfl (by kernel_rfl) Try.func4 (joined_of (by kernel_rfl))
    (of_decide_eq_true (by kernel_rfl)) (by unfold Func.isWrapper; first | (rw [if_pos (by decide +kernel)]; kernel_rfl) | (rw [if_neg (by decide +kernel)]; exact ⟨rfl, rfl⟩))
    (fun os started H enc _ => lifted os started H enc)

theorem proved : Rows.SegDiffSaid := over
end Go.Proofs.Ytpakfelekphbmaa.segDiff
