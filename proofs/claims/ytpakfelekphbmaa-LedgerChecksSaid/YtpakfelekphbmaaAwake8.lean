/- The clients' laws: awake. -/
import Derived.Test.YtpakfelekphbmaaLawRow
import Derived.Test.YtpakfelekphbmaaFormed100
namespace Go.Proofs.Ck
open Go Go.RowKit

theorem sts_one {f : Nat → Nat} (h : ∀ c, c < 8 → f (64 + 416 * c) = 0) : sts (upd f 480 1) 1 8 = [1] := by
  have e : ∀ c, c < 8 → upd f 480 1 (64 + 416 * c) = if c = 1 then 1 else 0 := fun c hc => by
    unfold upd
    by_cases h1 : c = 1
    · rw [if_pos (by omega), if_pos h1]
    · rw [if_neg (by omega), if_neg h1, h c hc]
  unfold sts
  rw [List.filter_congr (q := fun c => decide (c = 1)) (fun c hc => by
    rw [e c (List.mem_range.1 hc)]
    by_cases h1 : c = 1 <;> simp [h1])]
  rfl

set_option maxRecDepth 100000 in
set_option maxHeartbeats 4000000 in
theorem awake8 (w : World) : Calls Try.prog 98 #[] w fun e w' => e = .returned (.bool true) ∧ Grow w w' := by
  go_enter Try.func98, Try.ntmps98
  go_wp2_with fail
  refine (formed_law (w0 := w) (A := none) (l := []) (Below.refl _ _) Row.empty fun hl1 => formed100 (c := 0) 4000 (by unfold fits; omega) hl1 (by simp) (fun p hp => by cases hp)).mono ?_
  rintro e w2 ⟨base, p, A', n1, c', B', n2, d', rfl, L2⟩
  have f0 : ∀ c, c < 8 → fillF 4000 ([].take 60) (64 + 416 * c) = 0 := fun c hc => fmt_client 4000 c 0 (by omega) hc (by omega)
  have F0 := Lib.hid f0
  clear f0
  generalize fillF 4000 ([].take 60) = f at L2 F0
  have L3 := L2.alloc #[.slice A' n1 c', .slice B' n2 d'] 67
  clear L2
  go_wp2_with fail
  generalize w2.alloc (Obj.cells #[.slice A' n1 c', .slice B' n2 d'] 67) = w3 at L3 ⊢
  go_wp2_with fail
  refine (L3.read (word_ok' _ 1 0 480 (by omega) rfl (by omega) rfl)).mono ?_
  rintro e w4 ⟨rfl, L4⟩
  clear L3
  go_wp2_with fail
  refine (L4.attachIs (c := (1 : Nat)) (e := 0) (g := upd f 480 1) (att_zero (by omega) (F0.out 1 (by omega)))).mono ?_
  rintro e w5 ⟨rfl, L5⟩
  clear L4
  go_wp2_with fail
  refine (L5.attachIs (c := (1 : Nat)) (e := 7) (g := upd f 480 1) (att_one (by omega) (upd_same _ _ _))).mono ?_
  rintro e w6 ⟨rfl, L6⟩
  clear L5
  go_wp2_with fail
  refine (L6.allIs 1 (m := 1) (sts_one F0.out) rfl).mono ?_
  rintro e w7 ⟨A, c, rfl, L7⟩
  clear L6
  go_wp2_with fail
  refine (L7.killIs (c := (1 : Nat)) (o := 480) (by omega) rfl).mono ?_
  rintro e w8 ⟨rfl, L8⟩
  clear L7
  obtain ⟨b, off, rfl, hx⟩ := L8.first (u := .int .i64 1) rfl
  go_wp2_with fail
  refine (L8.read (stateIs L8.any (c := (1 : Nat)) (x := 2) (get_of (o := 480) (by omega) rfl (upd_same _ _ _)))).mono ?_
  rintro e w9 ⟨rfl, L9⟩
  clear L8
  go_wp2_with fail
  refine (L9.attachIs (c := (1 : Nat)) (e := 13) (g := upd (upd f 480 1) 480 2) (att_two (by omega) (upd_same _ _ _))).mono ?_
  rintro e w10 ⟨rfl, L10⟩
  clear L9
  have hg := L10.done
  clear L10 hx
  go_wp2
  go_ret
  exact ⟨rfl, hg⟩
end Go.Proofs.Ck
