/- LedgerApart: the row. -/
import Derived.Test.YtpakfelekphbmaaGLaw
import Derived.Test.YtpakfelekphbmaaOpenPc
import Derived.Test.YtpakfelekphbmaaLawS
import Derived.Test.YtpakfelekphbmaaLedgerApart
namespace Go.Proofs.Ytpakfelekphbmaa.ledgerApart
open Go Go.ChangeShapes Go.WideShapes Go.ChangeAt Go.RowKit Go.Proofs.Ck

set_option maxRecDepth 100000 in
theorem lifted (os : Os) (started : os.Started) (H : Type) (enc : TypeId × Value → H) :
    ReturnsInHanded {} Try.checked os 34 .any (Rows.ledgerApartSpec.pre6 enc Try.prog Try.f34 Rows.ledgerApartRow.domain false) (Rows.ledgerApartSpec.post enc Try.prog Try.f34 false true false false) := by
  refine law_lifted_sized started (by kernel_rfl) Try.func34 (by kernel_rfl) rfl rfl ?_
    (ChangeSpec.witness6 (enc := enc) (C := Try.checked) false ⟨#[], #[.slice none 0 0, .slice none 0 0, .agg #[.int .u8 0, .int .u8 0]], []⟩ 8 (by kernel_rfl) (by kernel_rfl) (by kernel_rfl) (by kernel_rfl)) ?_
  · intro ds h
    match ds, h with
    | [d0, d1, d2], _ => exact ⟨rfl, rfl, rfl⟩
  intro W base args ds ps hval hA _ _ hsz
  rw [Try.params34] at hA hval hsz
  obtain ⟨v0, vs0, d0, ds0, p0, q0, hargs, rfl, rfl, h0, r0⟩ := trodAll_cons hA
  obtain ⟨v1, vs1, d1, ds1, p1, q1, rfl, rfl, rfl, h1, r1⟩ := trodAll_cons r0
  obtain ⟨v2, vs2, d2, ds2, p2, q2, rfl, rfl, rfl, h2, r2⟩ := trodAll_cons r1
  obtain ⟨rfl, rfl, rfl⟩ := trodAll_nil r2
  obtain rfl : args = #[v0, v1, v2] := by cases args; simp_all
  obtain ⟨D1, l1, m1, rfl, hcap, hl1, hD1, hb1⟩ := open_pcs (hval 0 118 v0 rfl rfl) h0
  obtain ⟨D2, l2, m2, rfl, _, hl2, hD20, hD2, hb2⟩ := open_stps (hval 1 119 v1 rfl rfl) h1
  have hlen := reach_len (j := 1) hsz rfl rfl Try.underlying119 h1
  rw [show Try.prog.bytesOf 133 = 2 by kernel_rfl] at hlen
  have hr : reachBytes = 140737488351232 := by decide
  rw [hr] at hlen
  obtain ⟨x, y, rfl, k0, k1⟩ := open_pair Try.underlying133 (by kernel_rfl) (by kernel_rfl) Try.underlying5 Try.underlying5 (hval 2 133 v2 rfl rfl) h2
  obtain ⟨p, rfl, hp⟩ := wf_byte k0
  obtain ⟨q, rfl, hq⟩ := wf_byte k1
  exact ledgerApart p q hp hq hD1 hcap hl1 hb1 hD2 hD20 hlen hb2

theorem over : Rows.ledgerApartRow.holds Try.pinned (OpenSpec.ofChange Rows.ledgerApartSpec) :=
  OpenClaim.holds_of_wide 34 Try.f34 rfl rfl rfl rfl rfl rfl rfl ⟨rfl, rfl, rfl, rfl, rfl⟩ rfl rfl rfl rfl rfl (by kernel_rfl) Try.func34 (joined_of (by kernel_rfl))
    (of_decide_eq_true (by kernel_rfl)) (by unfold Func.isWrapper; first | (rw [if_pos (by decide +kernel)]; kernel_rfl) | (rw [if_neg (by decide +kernel)]; exact ⟨rfl, rfl⟩))
    (fun os started H enc _ => lifted os started H enc)

theorem proved : Rows.LedgerApartSaid := over
end Go.Proofs.Ytpakfelekphbmaa.ledgerApart
