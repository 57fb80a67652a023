/- SegStays: the row. -/
import Derived.Test.YtpakfelekphbmaaOpen
import Derived.Test.YtpakfelekphbmaaSegStays
namespace Go.Proofs.Ytpakfelekphbmaa.segStays
open Go Go.ChangeShapes Go.WideShapes Go.ChangeAt Go.RowKit Go.Proofs.Ck

set_option maxRecDepth 100000 in
theorem lifted (os : Os) (started : os.Started) (H : Type) (enc : TypeId × Value → H) :
    ReturnsInHanded {} Try.checked os 8 .any (Rows.segStaysSpec.pre6 enc Try.prog Try.f8 Rows.segStaysRow.domain false) (Rows.segStaysSpec.post enc Try.prog Try.f8 false true false false) := by
  refine law_lifted started (by kernel_rfl) Try.func8 (by kernel_rfl) rfl rfl ?_
    (ChangeSpec.witness6 (enc := enc) (C := Try.checked) false ⟨#[], #[.int .u64 0, .slice none 0 0, .agg #[.int .u64 0, .int .u64 0]], []⟩ 8 (by kernel_rfl) (by kernel_rfl) (by kernel_rfl) (by kernel_rfl)) ?_
  · intro ds h
    match ds, h with
    | [d0, d1, d2], _ => exact ⟨rfl, rfl, rfl⟩
  intro W base args ds ps hval hA _ _
  rw [Try.params8] at hA hval
  obtain ⟨v0, vs0, d0, ds0, p0, q0, hargs, rfl, rfl, h0, r0⟩ := trodAll_cons hA
  obtain ⟨v1, vs1, d1, ds1, p1, q1, rfl, rfl, rfl, h1, r1⟩ := trodAll_cons r0
  obtain ⟨v2, vs2, d2, ds2, p2, q2, rfl, rfl, rfl, h2, r2⟩ := trodAll_cons r1
  obtain ⟨rfl, rfl, rfl⟩ := trodAll_nil r2
  obtain rfl : args = #[v0, v1, v2] := by cases args; simp_all
  obtain ⟨a0, rfl, rfl, rfl, w0⟩ := open_int Try.underlying22 (hval 0 22 v0 rfl rfl) h0
  obtain ⟨size, rfl, hsz⟩ := wf_u64 w0
  obtain ⟨A, l, c, rfl, _, hm, _, hl, hx⟩ := open_puts Try.underlying23 Try.underlying50 (by kernel_rfl) rfl rfl (by kernel_rfl) (by kernel_rfl) Try.underlying22 Try.underlying22 (hval 1 23 v1 rfl rfl) h1
  obtain ⟨x, y, rfl, k0, k1⟩ := open_pair Try.underlying50 (by kernel_rfl) (by kernel_rfl) Try.underlying22 Try.underlying22 (hval 2 50 v2 rfl rfl) h2
  obtain ⟨p, rfl, hp⟩ := wf_u64 k0
  obtain ⟨q, rfl, hq⟩ := wf_u64 k1
  exact segStays size p q hsz hp hq hl hm hx

theorem over : Rows.segStaysRow.holds Try.pinned (OpenSpec.ofChange Rows.segStaysSpec) :=
  OpenClaim.holds_of_wide 8 Try.f8 rfl rfl rfl rfl rfl rfl rfl ⟨rfl, rfl, rfl, rfl, rfl⟩ rfl rfl rfl rfl rfl (by kernel_rfl) Try.func8 (joined_of (by kernel_rfl))
    (of_decide_eq_true (by kernel_rfl)) (by unfold Func.isWrapper; first | (rw [if_pos (by decide +kernel)]; kernel_rfl) | (rw [if_neg (by decide +kernel)]; exact ⟨rfl, rfl⟩))
    (fun os started H enc _ => lifted os started H enc)

theorem proved : Rows.SegStaysSaid := over
end Go.Proofs.Ytpakfelekphbmaa.segStays
