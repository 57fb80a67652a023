/- LedgerEnds: the row. -/
import Derived.Test.YtpakfelekphbmaaGLaw
import Derived.Test.YtpakfelekphbmaaOpenPc
import Derived.Test.YtpakfelekphbmaaLedgerEnds
namespace Go.Proofs.Ytpakfelekphbmaa.ledgerEnds
open Go Go.ChangeShapes Go.WideShapes Go.ChangeAt Go.RowKit Go.Proofs.Ck

set_option maxRecDepth 100000 in
theorem lifted (os : Os) (started : os.Started) (H : Type) (enc : TypeId × Value → H) :
    ReturnsInHanded {} Try.checked os 33 .any (Rows.ledgerEndsSpec.pre6 enc Try.prog Try.f33 Rows.ledgerEndsRow.domain false) (Rows.ledgerEndsSpec.post enc Try.prog Try.f33 false true false false) := by
  refine law_lifted started (by kernel_rfl) Try.func33 (by kernel_rfl) rfl rfl ?_
    (ChangeSpec.witness6 (enc := enc) (C := Try.checked) false ⟨#[], #[.slice none 0 0, .slice none 0 0, .slice none 0 0], []⟩ 8 (by kernel_rfl) (by kernel_rfl) (by kernel_rfl) (by kernel_rfl)) ?_
  · intro ds h
    match ds, h with
    | [d0, d1, d2], _ => exact ⟨rfl, rfl, rfl⟩
  intro W base args ds ps hval hA _ _
  rw [Try.params33] at hA hval
  obtain ⟨v0, vs0, d0, ds0, p0, q0, hargs, rfl, rfl, h0, r0⟩ := trodAll_cons hA
  obtain ⟨v1, vs1, d1, ds1, p1, q1, rfl, rfl, rfl, h1, r1⟩ := trodAll_cons r0
  obtain ⟨v2, vs2, d2, ds2, p2, q2, rfl, rfl, rfl, h2, r2⟩ := trodAll_cons r1
  obtain ⟨rfl, rfl, rfl⟩ := trodAll_nil r2
  obtain rfl : args = #[v0, v1, v2] := by cases args; simp_all
  obtain ⟨D1, l1, m1, rfl, hcap, hl1, hD1, hb1⟩ := open_pcs (hval 0 118 v0 rfl rfl) h0
  obtain ⟨D2, l2, m2, rfl, _, hl2, _, hD2, hb2⟩ := open_stps (hval 1 119 v1 rfl rfl) h1
  obtain ⟨D3, l3, m3, rfl, hl3, hD3⟩ := open_bls Try.underlying129 (by kernel_rfl) Try.underlying4 (hval 2 129 v2 rfl rfl) h2
  exact ledgerEnds hD3 hl3 hD1 hcap hl1 hb1 hD2 hl2 hb2

theorem over : Rows.ledgerEndsRow.holds Try.pinned (OpenSpec.ofChange Rows.ledgerEndsSpec) :=
  OpenClaim.holds_of_wide 33 Try.f33 rfl rfl rfl rfl rfl rfl rfl ⟨rfl, rfl, rfl, rfl, rfl⟩ rfl rfl rfl rfl rfl (by kernel_rfl) Try.func33 (joined_of (by kernel_rfl))
    (of_decide_eq_true (by kernel_rfl)) (by unfold Func.isWrapper; first | (rw [if_pos (by decide +kernel)]; kernel_rfl) | (rw [if_neg (by decide +kernel)]; exact ⟨rfl, rfl⟩))
    (fun os started H enc _ => lifted os started H enc)

theorem proved : Rows.LedgerEndsSaid := over
end Go.Proofs.Ytpakfelekphbmaa.ledgerEnds
