/- LockOne: the row. -/
import Derived.Test.YtpakfelekphbmaaGLaw
import Derived.Test.YtpakfelekphbmaaLockOne
namespace Go.Proofs.Ytpakfelekphbmaa.lockOne
open Go Go.ChangeShapes Go.WideShapes Go.ChangeAt Go.RowKit Go.Proofs.Ck

set_option maxRecDepth 100000 in
theorem lifted (os : Os) (started : os.Started) (H : Type) (enc : TypeId × Value → H) :
    ReturnsInHanded {} Try.checked os 26 .any (Rows.lockOneSpec.pre6 enc Try.prog Try.f26 Rows.lockOneRow.domain false) (Rows.lockOneSpec.post enc Try.prog Try.f26 false true false false) := by
  refine law_lifted started (by kernel_rfl) Try.func26 (by kernel_rfl) rfl rfl ?_
    (ChangeSpec.witness6 (enc := enc) (C := Try.checked) false ⟨#[], #[.slice none 0 0, .agg #[.int .u8 0, .int .u8 0]], []⟩ 8 (by kernel_rfl) (by kernel_rfl) (by kernel_rfl) (by kernel_rfl)) ?_
  · intro ds h
    match ds, h with
    | [d0, d1], _ => exact ⟨rfl, rfl, rfl⟩
  intro W base args ds ps hval hA _ _
  rw [Try.params26] at hA hval
  obtain ⟨v0, vs0, d0, ds0, p0, q0, hargs, rfl, rfl, h0, r0⟩ := trodAll_cons hA
  obtain ⟨v1, vs1, d1, ds1, p1, q1, rfl, rfl, rfl, h1, r1⟩ := trodAll_cons r0
  obtain ⟨rfl, rfl, rfl⟩ := trodAll_nil r1
  obtain rfl : args = #[v0, v1] := by cases args; simp_all
  obtain ⟨A, l, n, rfl, _, hm, _, hl, hx⟩ := open_puts Try.underlying64 Try.underlying73 (by kernel_rfl) rfl rfl (by kernel_rfl) (by kernel_rfl) Try.underlying22 Try.underlying22 (hval 0 64 v0 rfl rfl) h0
  obtain ⟨x, y, rfl, k0, k1⟩ := open_ints2 Try.underlying104 Try.underlying5 (by kernel_rfl) (by kernel_rfl) (hval 1 104 v1 rfl rfl) h1
  obtain ⟨c, rfl, hc⟩ := wf_byte k0
  obtain ⟨d, rfl, hd⟩ := wf_byte k1
  exact lockOne c d hc hd hl hm hx

theorem over : Rows.lockOneRow.holds Try.pinned (OpenSpec.ofChange Rows.lockOneSpec) :=
  OpenClaim.holds_of_wide 26 Try.f26 rfl rfl rfl rfl rfl rfl rfl ⟨rfl, rfl, rfl, rfl, rfl⟩ rfl rfl rfl rfl rfl (by kernel_rfl) Try.func26 (joined_of (by kernel_rfl))
    (of_decide_eq_true (by kernel_rfl)) (by unfold Func.isWrapper; first | (rw [if_pos (by decide +kernel)]; kernel_rfl) | (rw [if_neg (by decide +kernel)]; exact ⟨rfl, rfl⟩))
    (fun os started H enc _ => lifted os started H enc)

theorem proved : Rows.LockOneSaid := over
end Go.Proofs.Ytpakfelekphbmaa.lockOne
