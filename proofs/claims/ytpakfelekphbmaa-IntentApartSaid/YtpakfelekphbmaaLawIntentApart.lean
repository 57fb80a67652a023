/- IntentApart: the row. -/
import Derived.Test.YtpakfelekphbmaaGLaw
import Derived.Test.YtpakfelekphbmaaIntentApart
namespace Go.Proofs.Ytpakfelekphbmaa.intentApart
open Go Go.ChangeShapes Go.WideShapes Go.ChangeAt Go.RowKit Go.Proofs.Ck

set_option maxRecDepth 100000 in
theorem lifted (os : Os) (started : os.Started) (H : Type) (enc : TypeId × Value → H) :
    ReturnsInHanded {} Try.checked os 29 .any (Rows.intentApartSpec.pre6 enc Try.prog Try.f29 Rows.intentApartRow.domain false) (Rows.intentApartSpec.post enc Try.prog Try.f29 false true false false) := by
  refine law_lifted started (by kernel_rfl) Try.func29 (by kernel_rfl) rfl rfl ?_
    (ChangeSpec.witness6 (enc := enc) (C := Try.checked) false ⟨#[], #[.agg #[.int .u8 0, .int .u8 0], .slice none 0 0, .slice none 0 0], []⟩ 8 (by kernel_rfl) (by kernel_rfl) (by kernel_rfl) (by kernel_rfl)) ?_
  · intro ds h
    match ds, h with
    | [d0, d1, d2], _ => exact ⟨rfl, rfl, rfl⟩
  intro W base args ds ps hval hA _ _
  rw [Try.params29] at hA hval
  obtain ⟨v0, vs0, d0, ds0, p0, q0, hargs, rfl, rfl, h0, r0⟩ := trodAll_cons hA
  obtain ⟨v1, vs1, d1, ds1, p1, q1, rfl, rfl, rfl, h1, r1⟩ := trodAll_cons r0
  obtain ⟨v2, vs2, d2, ds2, p2, q2, rfl, rfl, rfl, h2, r2⟩ := trodAll_cons r1
  obtain ⟨rfl, rfl, rfl⟩ := trodAll_nil r2
  obtain rfl : args = #[v0, v1, v2] := by cases args; simp_all
  obtain ⟨x, y, rfl, k0, k1⟩ := open_ints2 Try.underlying104 Try.underlying5 (by kernel_rfl) (by kernel_rfl) (hval 0 104 v0 rfl rfl) h0
  obtain ⟨A1, l1, n1, rfl, _, hm1, _, hl1, hx1⟩ := open_puts Try.underlying64 Try.underlying73 (by kernel_rfl) rfl rfl (by kernel_rfl) (by kernel_rfl) Try.underlying22 Try.underlying22 (hval 1 64 v1 rfl rfl) h1
  obtain ⟨A2, l2, n2, rfl, _, hm2, _, hl2, hx2⟩ := open_puts Try.underlying64 Try.underlying73 (by kernel_rfl) rfl rfl (by kernel_rfl) (by kernel_rfl) Try.underlying22 Try.underlying22 (hval 2 64 v2 rfl rfl) h2
  obtain ⟨c, rfl, hc⟩ := wf_byte k0
  obtain ⟨d, rfl, hd⟩ := wf_byte k1
  exact intentApart c d hc hd hl1 hl2 hm1 hm2 hx1 hx2

theorem over : Rows.intentApartRow.holds Try.pinned (OpenSpec.ofChange Rows.intentApartSpec) :=
  OpenClaim.holds_of_wide 29 Try.f29 rfl rfl rfl rfl rfl rfl rfl ⟨rfl, rfl, rfl, rfl, rfl⟩ rfl rfl rfl rfl rfl (by kernel_rfl) Try.func29 (joined_of (by kernel_rfl))
    (of_decide_eq_true (by kernel_rfl)) (by unfold Func.isWrapper; first | (rw [if_pos (by decide +kernel)]; kernel_rfl) | (rw [if_neg (by decide +kernel)]; exact ⟨rfl, rfl⟩))
    (fun os started H enc _ => lifted os started H enc)

theorem proved : Rows.IntentApartSaid := over
end Go.Proofs.Ytpakfelekphbmaa.intentApart
