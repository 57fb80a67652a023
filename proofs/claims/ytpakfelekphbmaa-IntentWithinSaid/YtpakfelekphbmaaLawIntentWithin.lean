/- IntentWithin: the row. -/
import Derived.Test.YtpakfelekphbmaaGLaw
import Derived.Test.YtpakfelekphbmaaIntentWithin
namespace Go.Proofs.Ytpakfelekphbmaa.intentWithin
open Go Go.ChangeShapes Go.WideShapes Go.ChangeAt Go.RowKit Go.Proofs.Ck

set_option maxRecDepth 100000 in
theorem lifted (os : Os) (started : os.Started) (H : Type) (enc : TypeId × Value → H) :
    ReturnsInHanded {} Try.checked os 21 .any (Rows.intentWithinSpec.pre6 enc Try.prog Try.f21 Rows.intentWithinRow.domain false) (Rows.intentWithinSpec.post enc Try.prog Try.f21 false true false false) := by
  refine law_lifted started (by kernel_rfl) Try.func21 (by kernel_rfl) rfl rfl ?_
    (ChangeSpec.witness6 (enc := enc) (C := Try.checked) false ⟨#[], #[.int .u8 0, .slice none 0 0], []⟩ 8 (by kernel_rfl) (by kernel_rfl) (by kernel_rfl) (by kernel_rfl)) ?_
  · intro ds h
    match ds, h with
    | [d0, d1], _ => exact ⟨rfl, rfl, rfl⟩
  intro W base args ds ps hval hA _ _
  rw [Try.params21] at hA hval
  obtain ⟨v0, vs0, d0, ds0, p0, q0, hargs, rfl, rfl, h0, r0⟩ := trodAll_cons hA
  obtain ⟨v1, vs1, d1, ds1, p1, q1, rfl, rfl, rfl, h1, r1⟩ := trodAll_cons r0
  obtain ⟨rfl, rfl, rfl⟩ := trodAll_nil r1
  obtain rfl : args = #[v0, v1] := by cases args; simp_all
  obtain ⟨a0, rfl, rfl, rfl, w0⟩ := open_int Try.underlying5 (hval 0 5 v0 rfl rfl) h0
  obtain ⟨A1, l1, n1, rfl, _, hm1, _, hl1, _⟩ := open_puts Try.underlying64 Try.underlying73 (by kernel_rfl) rfl rfl (by kernel_rfl) (by kernel_rfl) Try.underlying22 Try.underlying22 (hval 1 64 v1 rfl rfl) h1
  obtain ⟨c, rfl, hc⟩ := wf_byte w0
  exact intentWithin c hc hl1 hm1

theorem over : Rows.intentWithinRow.holds Try.pinned (OpenSpec.ofChange Rows.intentWithinSpec) :=
  OpenClaim.holds_of_wide 21 Try.f21 rfl rfl rfl rfl rfl rfl rfl ⟨rfl, rfl, rfl, rfl, rfl⟩ rfl rfl rfl rfl rfl (by kernel_rfl) Try.func21 (joined_of (by kernel_rfl))
    (of_decide_eq_true (by kernel_rfl)) (by unfold Func.isWrapper; first | (rw [if_pos (by decide +kernel)]; kernel_rfl) | (rw [if_neg (by decide +kernel)]; exact ⟨rfl, rfl⟩))
    (fun os started H enc _ => lifted os started H enc)

theorem proved : Rows.IntentWithinSaid := over
end Go.Proofs.Ytpakfelekphbmaa.intentWithin
