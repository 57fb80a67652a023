/- LockNobody: the walk. -/
import Derived.Test.YtpakfelekphbmaaLockWord
namespace Go.Proofs.Ck
open Go Go.RowKit

theorem nobody (w : World) : TxAny w (.pointer none) (fun _ => 0) := .inl ⟨rfl, rfl⟩

set_option maxRecDepth 100000 in
set_option maxHeartbeats 4000000 in
theorem lockNobody {w : World} {A : Option Addr} {n : Nat} {l : List (Nat × Nat)} (c : Int) (hl : Puts (fun b => b < w.heap.size) w A l) (hm : l.length ≤ 9223372036854775807)
    (hx : ∀ p ∈ l, p.1 < 18446744073709551616 ∧ p.2 < 18446744073709551616) :
    Calls Try.prog 16 #[.slice A l.length n, .int .i64 c] w fun e w' => e = .returned (.bool true) ∧ Grow w w' := by
  go_enter Try.func16, Try.ntmps16
  go_wp2_with fail
  refine (awake18 w).mono ?_
  rintro e w1 ⟨rfl, hg⟩
  go_wp2_with fail
  have hl1 : Puts (fun b => b < w1.heap.size) w1 A l := (hl.grow hg).mono fun b _ hb => Nat.lt_of_lt_of_le hb hg.size
  refine (formed74 (c := n) 4480 (by unfold fits; omega) hl1 hm hx).mono ?_
  rintro e w2 ⟨base, v, rv, M, rfl, hP, _, hg2⟩
  have ht := hP.tx.any
  obtain ⟨A', c', B', d', hrv, -⟩ := hP.ref
  have hrv' : ∃ n1 n2, rv = .agg #[.slice A' n1 c', .slice B' n2 d'] := ⟨_, _, hrv⟩
  clear hrv hP hl hl1 hx
  obtain ⟨n1, n2, rfl⟩ := hrv'
  generalize (fillS ⟨fmtW 600 4480, []⟩ (l.take 60)).load = f at ht
  obtain ⟨p, rfl⟩ := ht.ptr
  have g2 := hg.trans hg2
  have ga : Grow w2 (w2.alloc (Obj.cells #[.slice A' n1 c', .slice B' n2 d'] 67)) := (Below.refl _ _).alloc (Nat.le_refl _) _
  have h3 := ht.grow ga
  have g3 := g2.trans ga
  clear hg hg2 ht g2 ga
  go_wp2_with fail
  generalize w2.alloc (Obj.cells #[.slice A' n1 c', .slice B' n2 d'] 67) = w3 at h3 g3 ⊢
  refine (holder_bad (nobody w3) (by omega)).mono ?_
  rintro e w4 ⟨rfl, hg4⟩
  have h4 := h3.grow hg4
  have g4 := g3.trans hg4
  clear h3 g3 hg4
  have m1 := may_call (nobody w4) c
  have m2 : ∀ w5, Grow w4 w5 → ¬ (0 ≤ c ∧ c < 8) → Calls Try.prog 79 #[.pointer p, .int .i64 c] w5 fun e w' => e = .returned (.bool false) ∧ Grow w5 w' := fun w5 h5 hc => by
    have := may_call (h4.grow h5) c
    rwa [show mayB f c = false from by unfold mayB; rw [decide_eq_false hc]; rfl] at this
  by_cases hc : 0 ≤ c ∧ c < 8
  · rw [show mayB (fun _ => 0) c = true from by unfold mayB; rw [decide_eq_true hc]; rfl] at m1
    have t0 : decide (0 ≤ c) = true := decide_eq_true hc.1
    have t1 : decide (c < 8) = true := decide_eq_true hc.2
    clear m2 h4
    go_wp2_with fail
    refine m1.mono ?_
    rintro e w5 ⟨rfl, hg5⟩
    have g5 := g4.trans hg5
    clear m1 g4 hg5
    go_wp2
    go_ret
    exact ⟨rfl, g5⟩
  · rw [show mayB (fun _ => 0) c = false from by unfold mayB; rw [decide_eq_false hc]; rfl] at m1
    by_cases h0 : 0 ≤ c
    · have t0 : decide (0 ≤ c) = true := decide_eq_true h0
      have t1 : decide (c < 8) = false := decide_eq_false (by omega)
      go_wp2_with fail
      refine m1.mono ?_
      rintro e w5 ⟨rfl, hg5⟩
      go_wp2_with fail
      refine (m2 w5 hg5 hc).mono ?_
      rintro e w6 ⟨rfl, hg6⟩
      have g6 := (g4.trans hg5).trans hg6
      clear m1 m2 h4 g4 hg5 hg6
      go_wp2
      go_ret
      exact ⟨rfl, g6⟩
    · have t0 : decide (0 ≤ c) = false := decide_eq_false h0
      go_wp2_with fail
      refine m1.mono ?_
      rintro e w5 ⟨rfl, hg5⟩
      go_wp2_with fail
      refine (m2 w5 hg5 hc).mono ?_
      rintro e w6 ⟨rfl, hg6⟩
      have g6 := (g4.trans hg5).trans hg6
      clear m1 m2 h4 g4 hg5 hg6
      go_wp2
      go_ret
      exact ⟨rfl, g6⟩
end Go.Proofs.Ck
