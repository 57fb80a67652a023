/- Clients: where a word of a record is, a client's state, and how it is set. -/
import Derived.Test.YtpakfelekphbmaaLock1
namespace Go.Proofs.Ck
open Go Go.RowKit

theorem word_ok (w : World) (c what : Nat) (hc : c < 8) (h8 : what % 8 = 0) (hw : what < 416) :
    Calls Try.prog 96 #[.int .i64 (c : Int), .int .u64 (what : Int)] w fun e w' => e = .returned (.tuple #[.int .u64 ((64 + 416 * c + what : Nat) : Int), .bool true]) ∧ w = w' := by
  have t0 : decide ((c : Int) < 0) = false := decide_eq_false (by omega)
  have t1 : decide ((8 : Int) ≤ c) = false := decide_eq_false (by omega)
  have t2 : ((what : Int) % 8 != 0) = false := by rw [← Bool.not_eq_true, bne_iff_ne]; omega
  have t3 : decide ((416 : Int) ≤ what) = false := decide_eq_false (by omega)
  have e2 : IntKind.u64.wrap (c : Int) = (c : Int) := by rw [IntKind.wrap_u64]; omega
  go_enter Try.func96, Try.ntmps96
  go_wp2
  go_ret2
  exact ⟨by simp, rfl⟩
theorem word_bad (w : World) (c : Int) (what : Nat) (h : ¬ (0 ≤ c ∧ c < 8 ∧ what % 8 = 0 ∧ what < 416)) :
    Calls Try.prog 96 #[.int .i64 c, .int .u64 (what : Int)] w fun e w' => e = .returned (.tuple #[.int .u64 0, .bool false]) ∧ w = w' := by
  by_cases h0 : c < 0
  · have t0 : decide (c < 0) = true := decide_eq_true h0
    go_enter Try.func96, Try.ntmps96
    go_wp2
    go_ret2
    exact ⟨rfl, rfl⟩
  · have t0 : decide (c < 0) = false := decide_eq_false h0
    by_cases h1 : 8 ≤ c
    · have t1 : decide (8 ≤ c) = true := decide_eq_true h1
      go_enter Try.func96, Try.ntmps96
      go_wp2
      go_ret2
      exact ⟨rfl, rfl⟩
    · have t1 : decide (8 ≤ c) = false := decide_eq_false h1
      by_cases h2 : what % 8 = 0
      · have t2 : ((what : Int) % 8 != 0) = false := by rw [← Bool.not_eq_true, bne_iff_ne]; omega
        have t3 : decide ((416 : Int) ≤ what) = true := decide_eq_true (by omega)
        go_enter Try.func96, Try.ntmps96
        go_wp2
        go_ret2
        exact ⟨rfl, rfl⟩
      · have t2 : ((what : Int) % 8 != 0) = true := by rw [bne_iff_ne]; omega
        go_enter Try.func96, Try.ntmps96
        go_wp2
        go_ret2
        exact ⟨rfl, rfl⟩

theorem get_ok {w : World} {v : Value} {f : Nat → Nat} (h : TxAny w v f) (c what : Nat) (hc : c < 8) (h8 : what % 8 = 0) (hw : what < 416) :
    Calls Try.prog 164 #[v, .int .i64 (c : Int), .int .u64 (what : Int)] w fun e w' => e = .returned (.int .u64 ((f (64 + 416 * c + what) : Nat) : Int)) ∧ Grow w w' := by
  have hw1 := word_ok w c what hc h8 hw
  have hl := load_txany h (64 + 416 * c + what) (by omega)
  generalize 64 + 416 * c + what = o at *
  generalize f o = x at *
  go_enter Try.func164, Try.ntmps164
  go_wp2_with fail
  refine hw1.mono ?_
  rintro e w' ⟨rfl, rfl⟩
  go_wp2_with fail
  refine hl.mono ?_
  rintro e w' ⟨rfl, hg⟩
  go_wp2
  go_ret
  exact ⟨rfl, hg⟩
theorem get_bad (w : World) (v : Value) (c : Int) (what : Nat) (h : ¬ (0 ≤ c ∧ c < 8 ∧ what % 8 = 0 ∧ what < 416)) :
    Calls Try.prog 164 #[v, .int .i64 c, .int .u64 (what : Int)] w fun e w' => e = .returned (.int .u64 0) ∧ Grow w w' := by
  have hw1 := word_bad w c what h
  go_enter Try.func164, Try.ntmps164
  go_wp2_with fail
  refine hw1.mono ?_
  rintro e w' ⟨rfl, rfl⟩
  go_wp2
  go_ret
  exact ⟨rfl, Below.refl _ _⟩
theorem state_ok {w : World} {v : Value} {f : Nat → Nat} (h : TxAny w v f) (c : Nat) (hc : c < 8) :
    Calls Try.prog 101 #[v, .int .i64 (c : Int)] w fun e w' => e = .returned (.int .u64 ((f (64 + 416 * c) : Nat) : Int)) ∧ Grow w w' := by
  have hl := get_ok h c 0 hc rfl (by omega)
  rw [Nat.add_zero] at hl
  generalize f (64 + 416 * c) = x at *
  go_enter Try.func101, Try.ntmps101
  go_wp2_with fail
  refine hl.mono ?_
  rintro e w' ⟨rfl, hg⟩
  go_wp2
  go_ret
  exact ⟨rfl, hg⟩

theorem set_ok {w : World} {base : Nat} {v : Value} {M : Nat → Prop} {σ : St} (h : TxAt w base v M σ) (c what x : Nat) (hc : c < 8) (h8 : what % 8 = 0) (hw : what < 416) (hx : x < 18446744073709551616) (hn : σ.p.length < 1000000) :
    Calls Try.prog 159 #[v, .int .i64 (c : Int), .int .u64 (what : Int), .int .u64 (x : Int)] w fun e w' => e = .returned (.int .i64 0) ∧ ∃ M', TxAt w' base v M' (σ.store (64 + 416 * c + what) x) ∧ Only M w w' ∧ ∀ b, M' b → M b ∨ w.heap.size ≤ b := by
  have hw1 := word_ok w c what hc h8 hw
  have hs := store_call h (64 + 416 * c + what) x (by omega) hx hn
  generalize 64 + 416 * c + what = o at *
  go_enter Try.func159, Try.ntmps159
  go_wp2_with fail
  refine hw1.mono ?_
  rintro e w' ⟨rfl, rfl⟩
  go_wp2_with fail
  refine hs.mono ?_
  rintro e w' ⟨rfl, hM⟩
  have HM := Lib.hid hM
  clear hM hs
  go_wp2
  go_ret
  exact ⟨rfl, HM.out⟩
theorem kill_ok {w : World} {base : Nat} {v : Value} {M : Nat → Prop} {σ : St} (h : TxAt w base v M σ) (c : Nat) (hc : c < 8) (hn : σ.p.length < 1000000) :
    Calls Try.prog 83 #[v, .int .i64 (c : Int)] w fun e w' => e = .returned (.int .i64 0) ∧ ∃ M', TxAt w' base v M' (σ.store (64 + 416 * c) 2) ∧ Only M w w' ∧ ∀ b, M' b → M b ∨ w.heap.size ≤ b := by
  have hs := set_ok h c 0 2 hc rfl (by omega) (by omega) hn
  rw [Nat.add_zero] at hs
  go_enter Try.func83, Try.ntmps83
  go_wp2_with fail
  refine hs.mono ?_
  rintro e w' ⟨rfl, hM⟩
  have HM := Lib.hid hM
  clear hM hs
  go_wp2
  go_ret
  exact ⟨rfl, HM.out⟩
theorem clear_ok {w : World} {base : Nat} {v : Value} {M : Nat → Prop} {σ : St} (h : TxAt w base v M σ) (c : Nat) (hc : c < 8) (hn : σ.p.length < 1000000) :
    Calls Try.prog 84 #[v, .int .i64 (c : Int)] w fun e w' => e = .returned (.int .i64 0) ∧ ∃ M', TxAt w' base v M' (σ.store (64 + 416 * c) 0) ∧ Only M w w' ∧ ∀ b, M' b → M b ∨ w.heap.size ≤ b := by
  have hs := set_ok h c 0 0 hc rfl (by omega) (by omega) hn
  rw [Nat.add_zero] at hs
  go_enter Try.func84, Try.ntmps84
  go_wp2_with fail
  refine hs.mono ?_
  rintro e w' ⟨rfl, hM⟩
  have HM := Lib.hid hM
  clear hM hs
  go_wp2
  go_ret
  exact ⟨rfl, HM.out⟩
end Go.Proofs.Ck
