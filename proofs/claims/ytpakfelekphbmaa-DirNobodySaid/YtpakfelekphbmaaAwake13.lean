/- The directory's laws: awake. -/
import Derived.Test.YtpakfelekphbmaaDirL1
import Derived.Test.YtpakfelekphbmaaFormed138
namespace Go.Proofs.Ck
open Go Go.RowKit

set_option maxRecDepth 100000 in
set_option maxHeartbeats 4000000 in
theorem awake13 (w : World) : Calls Try.prog 125 #[] w fun e w' => e = .returned (.bool true) ∧ Grow w w' := by
  go_enter Try.func125, Try.ntmps125
  go_wp2_with fail
  refine (formed_K (w0 := w) (A := none) (l := []) (K0 := fun _ _ => True) (Below.refl _ _) Row.empty stable_true trivial fun hl1 => formed138 (c := 0) 4000 (by unfold fits; omega) hl1 (by simp) (fun p hp => by cases hp)).mono ?_
  rintro e w2 ⟨base, p, A', n1, c', B', n2, d', rfl, L2⟩
  have h0 : ∀ j, j < 16 → fillF 4000 ([].take 60) (sl j + 16) = 0 := fmt_slots 4000 (by omega)
  generalize fillF 4000 ([].take 60) = f0 at L2 h0
  have H0 := Lib.hid h0
  clear h0
  have L3 := L2.alloc #[.slice A' n1 c', .slice B' n2 d'] 67
  clear L2
  go_wp2_with fail
  generalize w2.alloc (Obj.cells #[.slice A' n1 c', .slice B' n2 d'] 67) = w3 at *
  obtain ⟨f1, f2, f3, p1, q1, b1, q2, p3, q3, v3, b3, l3, m3, p4, q4, r4⟩ := awake_plain H0.out (a := ⟨#[97]⟩) (b := ⟨#[98]⟩) (c := ⟨#[99]⟩) (by rw [okN_iff]; decide) (by rw [okN_iff]; decide) (by rw [okN_iff]; decide) (by decide) (by decide) (by decide)
  have D1 := L3.dput ⟨#[97]⟩ 3808 (by omega) p1 q1
  clear p1 q1 H0
  refine (show Calls _ _ #[_, _, .int .u64 3808] _ _ from D1).mono ?_
  rintro e w4 ⟨rfl, L4⟩
  clear D1 L3
  have D1 := L4.ddrop ⟨#[97]⟩ b1 q2
  clear b1 q2
  go_wp2_with fail
  refine D1.mono ?_
  rintro e w5 ⟨rfl, L5⟩
  clear D1 L4
  have D1 := L5.dput ⟨#[98]⟩ 3856 (by omega) p3 q3
  clear p3 q3
  go_wp2_with fail
  refine (show Calls _ _ #[_, _, .int .u64 3856] _ _ from D1).mono ?_
  rintro e w6 ⟨rfl, L6⟩
  clear D1 L5
  have D1 := L6.dfind ⟨#[98]⟩ v3 b3
  clear v3 b3
  go_wp2_with fail
  refine D1.mono ?_
  rintro e w7 ⟨rfl, L7⟩
  clear D1 L6
  have D1 := L7.dall rfl l3
  clear l3
  go_wp2_with fail
  refine D1.mono ?_
  rintro e w8 ⟨Ar, cr, rfl, L8⟩
  clear D1 L7
  have D1 := L8.dnamed 3856 (by omega) m3
  clear m3
  go_wp2_with fail
  refine (show Calls _ _ #[_, .int .u64 3856] _ _ from D1).mono ?_
  rintro e w9 ⟨rfl, L9⟩
  clear D1 L8
  have D1 := L9.dput ⟨#[98]⟩ 5 (by omega) p4 q4
  clear p4 q4
  go_wp2_with fail
  refine (show Calls _ _ #[_, _, .int .u64 5] _ _ from D1).mono ?_
  rintro e w10 ⟨rfl, L10⟩
  clear D1 L9
  have D1 := L10.droom ⟨#[99]⟩ r4
  clear r4
  go_wp2_with fail
  refine D1.mono ?_
  rintro e w11 ⟨rfl, L11⟩
  clear D1 L10
  have hg := L11.done
  clear L11
  go_wp2
  go_ret
  exact ⟨rfl, hg⟩
end Go.Proofs.Ck
