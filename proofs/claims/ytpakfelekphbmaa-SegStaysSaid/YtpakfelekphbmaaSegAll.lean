/- A part of the proofs of this seat's laws. -/
import Derived.Test.YtpakfelekphbmaaFill
namespace Go.Proofs.Ck
open Go Go.RowKit

theorem fresh_may {size : Nat} (h : may size) : (fresh size).length = size / 8 := by rw [fresh_length, if_pos h]

set_option maxRecDepth 100000 in
set_option maxHeartbeats 2000000 in
theorem segAll {w : World} {A : Option Addr} {c : Nat} {l : List (Nat × Nat)} (size : Nat) (hsz : size < 18446744073709551616) (hl : Puts (fun b => b < w.heap.size) w A l) (hm : l.length ≤ 9223372036854775807)
    (hx : ∀ p ∈ l, p.1 < 18446744073709551616 ∧ p.2 < 18446744073709551616) :
    Calls Try.prog 3 #[.int .u64 (size : Int), .slice A l.length c] w fun e w' => e = .returned (.bool true) ∧ Grow w w' := by
  by_cases h8 : size ≤ 800
  · have t0 : decide (800 < (size : Int)) = false := decide_eq_false (by omega)
    by_cases hmay : may size
    · obtain ⟨m0, m8, mx⟩ := hmay
      go_enter Try.func3, Try.ntmps3
      go_wp2_with fail
      refine (awake2 w).mono ?_
      rintro e w1 ⟨rfl, hg1⟩
      go_wp2_with fail
      refine (may_ok size w1 m0 m8 mx).mono ?_
      rintro e w' ⟨rfl, rfl⟩
      go_wp2_with fail
      have hl1 : Puts (fun b => b < w1.heap.size) w1 A l := (hl.grow hg1).mono fun b _ hb => Nat.lt_of_lt_of_le hb hg1.size
      refine (filled (c := c) size hsz hl1 hm hx).mono ?_
      rintro e w2 ⟨s, y, A2, c2, ⟨rfl, hsg, hrow, hyb⟩, hg2⟩
      have hlen : (fillW size (l.take 40)).length = size / 8 := by rw [fillW_length, fresh_may ⟨m0, m8, mx⟩]
      rw [fresh_may ⟨m0, m8, mx⟩] at hrow ⊢
      generalize fillW size (l.take 40) = W at hsg hrow hlen
      have hws := hsg.like.words
      have e8 : 8 * W.length = size := by omega
      rcases hsg with ⟨rfl, rfl, _⟩ | ⟨sb, bb, cap, cs, rfl, rfl, hseg⟩
      · simp at hlen; omega
      clear hl1 hl hx hyb
      have HL := Lib.hid hlen
      clear hlen
      go_wp2_with fail
      refine (bytes_ok hseg 0 size (by omega) (by omega)).mono ?_
      rintro e w3 ⟨⟨g, rfl, hB⟩, hg3⟩
      have hr3 : Nums (fun b => w1.heap.size ≤ b ∧ some bb ≠ some b) w3 A2 W := by have := hrow.grow hg3; rw [← HL.out] at this; exact this
      rw [← HL.out]
      go_wp2_with fail
      refine (rbytes_ok hr3 0 size (by omega) hws (by omega) (by omega) (by omega)).mono ?_
      rintro e w4 ⟨⟨A5, c5, rfl, hB5⟩, hg4⟩
      have hs4 := (hseg.grow hg3).grow hg4
      go_wp2_with fail
      have hb1 := bytes_bad hs4 0 (size + 1) (by omega) (by omega)
      rw [show ((size + 1 : Nat) : Int) = (size : Int) + 1 from by omega] at hb1
      refine hb1.mono ?_
      rintro e w' ⟨rfl, rfl⟩
      go_wp2_with fail
      refine (bytes_bad hs4 1 size (by omega) (by omega)).mono ?_
      rintro e w' ⟨rfl, rfl⟩
      have hstr := run_string (c := size) (n := size) (hB.grow hg4) (by rw [bytesOf_length])
      have hstr2 := run_string (c := c5) (n := size) hB5 (by rw [bytesOf_length])
      have hg : Grow w w4 := ((hg1.trans hg2).trans hg3).trans hg4
      clear hB hB5 hseg hs4 hrow hr3 hb1 hg1 hg2 hg3 hg4 hws HL
      generalize strOf (bytesOf W 0 size) = str at hstr hstr2
      go_wp2
      go_ret
      exact ⟨rfl, hg⟩
    · go_enter Try.func3, Try.ntmps3
      go_wp2_with fail
      refine (awake2 w).mono ?_
      rintro e w1 ⟨rfl, hg1⟩
      go_wp2_with fail
      refine (may_bad size w1 hsz hmay).mono ?_
      rintro e w' ⟨rfl, rfl⟩
      go_wp2
      go_ret
      exact ⟨rfl, hg1⟩
  · have t0 : decide (800 < (size : Int)) = true := decide_eq_true (by omega)
    go_enter Try.func3, Try.ntmps3
    go_wp2_with fail
    refine (awake2 w).mono ?_
    rintro e w1 ⟨rfl, hg1⟩
    go_wp2
    go_ret
    exact ⟨rfl, hg1⟩

end Go.Proofs.Ck
