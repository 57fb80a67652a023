/- SegNobody: the walk. -/
import Derived.Test.YtpakfelekphbmaaFill
namespace Go.Proofs.Ck
open Go Go.RowKit

set_option maxRecDepth 100000 in
theorem segNobody (w : World) (off v : Nat) (ho : off < 18446744073709551616) :
    Calls Try.prog 10 #[.int .u64 (off : Int), .int .u64 (v : Int)] w fun e w' => e = .returned (.bool true) ∧ Grow w w' := by
  go_enter Try.func10, Try.ntmps10
  go_wp2_with fail
  refine (awake2 w).mono ?_
  rintro e w1 ⟨rfl, hg1⟩
  go_wp2_with fail
  refine (load_nil w1 off ho).mono ?_
  rintro e w' ⟨rfl, rfl⟩
  go_wp2_with fail
  refine (bytes_nil w1 off 1).mono ?_
  rintro e w' ⟨rfl, rfl⟩
  go_wp2_with fail
  refine (size_nil w1).mono ?_
  rintro e w' ⟨rfl, rfl⟩
  go_wp2_with fail
  refine (store_nil w1 off v ho).mono ?_
  rintro e w2 ⟨rfl, hg2⟩
  go_wp2_with fail
  refine (copy_nil w2).mono ?_
  rintro e w' ⟨rfl, rfl⟩
  go_wp2_with fail
  refine (sdiff (w := w2) (v0 := .pointer none) (v1 := .pointer none) (W0 := []) (W1 := []) (.inl ⟨rfl, rfl⟩) (.inl ⟨rfl, rfl⟩)).mono ?_
  rintro e w3 ⟨⟨A, c, rfl, -⟩, hg3⟩
  have hg : Grow w w3 := (hg1.trans hg2).trans hg3
  simp only [diffs, List.length_nil, Nat.max_self, List.range_zero, List.filter_nil, List.map_nil]
  clear hg1 hg2 hg3
  go_wp2
  go_ret
  exact ⟨rfl, hg⟩
end Go.Proofs.Ck
