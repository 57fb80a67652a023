/- WordNeeds: the walk. -/
import Derived.Test.YtpakfelekphbmaaAwake1
import Derived.Test.YtpakfelekphbmaaRneed
namespace Go.Proofs.Ck
open Go Go.RowKit
open Go.Proofs.Ytpakfelekphbmaa

/-- Two functions that answer alike: a number and a truth. -/
def Alike (f g : FuncId) (args : Array Value) : Prop :=
  ∃ (v : Nat) (b : Bool), (∀ w, Calls Try.prog f args w fun e w' => e = .returned (.tuple #[.int .u64 (v : Int), .bool b]) ∧ w = w') ∧
    ∀ w, Calls Try.prog g args w fun e w' => e = .returned (.tuple #[.int .u64 (v : Int), .bool b]) ∧ w = w'
theorem need_alike (n : Nat) (hn : n < 18446744073709551616) : Alike 52 59 #[.int .u64 (n : Int)] := by
  by_cases h : need n < 18446744073709551616
  · exact ⟨_, _, need_ok n h, rneed_ok n h⟩
  · exact ⟨0, false, need_bad n hn h, rneed_bad n hn h⟩

set_option maxRecDepth 100000 in
theorem wordNeeds (w : World) (n : Nat) (s : ByteArray) (hn : n < 18446744073709551616) :
    Calls Try.prog 11 #[.int .u64 (n : Int), .string s] w fun e w' => e = .returned (.bool true) ∧ Grow w w' := by
  go_enter Try.func11, Try.ntmps11
  go_wp2_with fail
  refine (awake1 w).mono ?_
  rintro e w1 ⟨rfl, hg⟩
  by_cases hs : s.size ≤ 100
  · have t : decide (100 < (s.size : Int)) = false := decide_eq_false (by omega)
    obtain ⟨v, b, c1, c2⟩ := need_alike n hn
    have d1 := words_call n hn w1
    have d2 := rwords_call n hn w1
    have m1 := mix n w1
    have m2 := rmix n w1
    have h1 := hash s hs w1
    have h2 := rhash s hs w1
    generalize (n + 7) / 8 = d at *
    generalize n * 11400714819323198485 % 18446744073709551616 = m at *
    generalize hsum s.data.toList = h at *
    have t2 : (b == b) = true := by simp
    go_wp2_with fail
    refine (c1 w1).mono ?_
    rintro e w' ⟨rfl, rfl⟩
    go_wp2_with fail
    refine (c2 w1).mono ?_
    rintro e w' ⟨rfl, rfl⟩
    go_wp2_with fail
    refine d1.mono ?_
    rintro e w' ⟨rfl, rfl⟩
    go_wp2_with fail
    refine d2.mono ?_
    rintro e w' ⟨rfl, rfl⟩
    go_wp2_with fail
    refine m1.mono ?_
    rintro e w' ⟨rfl, rfl⟩
    go_wp2_with fail
    refine m2.mono ?_
    rintro e w' ⟨rfl, rfl⟩
    go_wp2_with fail
    refine h1.mono ?_
    rintro e w' ⟨rfl, rfl⟩
    go_wp2_with fail
    refine h2.mono ?_
    rintro e w' ⟨rfl, rfl⟩
    go_wp2
    go_ret
    exact ⟨rfl, hg⟩
  · have t : decide (100 < (s.size : Int)) = true := decide_eq_true (by omega)
    go_wp2
    go_ret
    exact ⟨rfl, hg⟩
end Go.Proofs.Ck
