/- The lock, by what is loaded. -/
import Derived.Test.YtpakfelekphbmaaGClient
import Derived.Test.YtpakfelekphbmaaLockWord
namespace Go.Proofs.Ck
open Go Go.RowKit

section
variable {base : Nat} {M0 : Nat → Prop} {w0 w w' : World} {v : Value} {f : Nat → Nat} {bx : List Bx} {K : World → (Nat → Prop) → Prop}
theorem Law.takeX (h : Law base M0 w0 w v f bx K) {c x : Nat} (hc : c < 8) (hx : Hid (x = c + 1)) :
    Calls Try.prog 77 #[.int .i64 (c : Int)] w fun e w' => e = .returned (.tuple #[.agg #[.int .u64 24, .int .u64 (x : Int)], .int .i64 0]) ∧ Law base M0 w0 w' v f bx K := by
  rw [hx.out]; exact h.takeOk c hc
theorem Law.mayIs (h : Law base M0 w0 w v f bx K) (c : Int) {b : Bool} (hb : mayB f c = b) :
    Calls Try.prog 79 #[v, .int .i64 c] w fun e w' => e = .returned (.bool b) ∧ Law base M0 w0 w' v f bx K := by
  rw [← hb]; exact h.may c
theorem Law.holderIs (h : Law base M0 w0 w v f bx K) {x : Nat} (hx : x < 8) (hf : f 24 = x + 1) :
    Calls Try.prog 75 #[v] w fun e w' => e = .returned (.tuple #[.int .i64 (x : Int), .bool true]) ∧ Law base M0 w0 w' v f bx K := by
  have := holder_ok h.any (by omega) (by omega)
  rw [hf, Nat.add_sub_cancel] at this
  exact h.read this
theorem Law.holderNo (h : Law base M0 w0 w v f bx K) (hf : ¬ (1 ≤ f 24 ∧ f 24 ≤ 8)) :
    Calls Try.prog 75 #[v] w fun e w' => e = .returned (.tuple #[.int .i64 0, .bool false]) ∧ Law base M0 w0 w' v f bx K := h.read (holder_bad h.any hf)
theorem Law.attach0 (h : Law base M0 w0 w v f bx K) {c : Nat} (hc : c < 8) (h0 : f (64 + 416 * c) = 0) :
    Calls Try.prog 99 #[v, .int .i64 (c : Int)] w fun e w' => e = .returned (.int .i64 0) ∧ Law base M0 w0 w' v (upd f (64 + 416 * c) 1) bx K := by
  have := h.attach (c : Int)
  have hg : getF f (c : Int) 0 = 0 := by unfold getF; rw [if_pos (by omega)]; simpa using h0
  unfold attE attF setE setF at this
  rw [if_pos hg, if_pos hg, if_pos (by omega), if_pos (by omega)] at this
  simpa using this
end
theorem mayB_none {f : Nat → Nat} {c : Int} (h : f 24 = 0) : mayB f c = decide (0 ≤ c ∧ c < 8) := by unfold mayB; rw [h]; simp
theorem mayB_self {f : Nat → Nat} {c : Nat} (h : f 24 = c + 1) (hc : c < 8) : mayB f c = false := by
  unfold mayB
  rw [h, decide_eq_true (show 1 ≤ c + 1 ∧ c + 1 ≤ 8 by omega), Nat.add_sub_cancel]
  simp
theorem mayB_dead {f : Nat → Nat} {c d : Nat} (h : f 24 = c + 1) (hc : c < 8) (hd : d < 8) (hcd : c ≠ d) (h2 : f (64 + 416 * c) = 2) : mayB f d = true := by
  unfold mayB
  rw [h, decide_eq_true (show 1 ≤ c + 1 ∧ c + 1 ≤ 8 by omega), Nat.add_sub_cancel, h2]
  simp; omega
theorem mayB_live {f : Nat → Nat} {c : Nat} {d : Int} (h : f 24 = c + 1) (hc : c < 8) (h2 : f (64 + 416 * c) ≠ 2) : mayB f d = false := by
  unfold mayB
  rw [h, decide_eq_true (show 1 ≤ c + 1 ∧ c + 1 ≤ 8 by omega), Nat.add_sub_cancel, decide_eq_false h2]
  simp
end Go.Proofs.Ck
