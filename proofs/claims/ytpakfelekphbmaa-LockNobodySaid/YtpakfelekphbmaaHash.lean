/- Words: a name's number, the document's words. -/
import Derived.Test.YtpakfelekphbmaaNeed
import Derived.Lib.Hide
namespace Go.Proofs.Ck
open Go Go.RowKit
open Go.Proofs.Ytpakfelekphbmaa

/-- A name's number. -/
def hsum (l : List UInt8) : Nat := l.foldl (fun h b => (h ^^^ b.toNat) * 1099511628211 % 18446744073709551616) 14695981039346656037
theorem hsum_snoc (l : List UInt8) (b : UInt8) : hsum (l ++ [b]) = (hsum l ^^^ b.toNat) * 1099511628211 % 18446744073709551616 := by
  unfold hsum
  rw [List.foldl_append, List.foldl_cons, List.foldl_nil]
theorem hsum_lt (l : List UInt8) : hsum l < 18446744073709551616 := by
  rcases List.eq_nil_or_concat l with rfl | ⟨l, b, rfl⟩
  · decide
  · rw [List.concat_eq_append, hsum_snoc]
    exact Nat.mod_lt _ (by omega)
theorem bytes_take (s : ByteArray) (k : Nat) (h : k < s.size) : s.data.toList.take (k + 1) = s.data.toList.take k ++ [s[k]] := by
  rw [List.take_succ_eq_append_getElem (by simpa using h)]
  simp
  rfl

set_option maxRecDepth 100000 in
theorem hash (s : ByteArray) (hs : s.size ≤ 100) (w : World) :
    Calls Try.prog 62 #[.string s] w fun e w' => e = .returned (.int .u64 ((hsum s.data.toList : Nat) : Int)) ∧ w = w' := by
  go_enter Try.func62, Try.ntmps62
  go_wp2
  go_loop [3, 7] (fun n i => ∃ k : Nat, k ≤ s.size ∧ i = .int .i64 k ∧ n = .int .u64 ((hsum (s.data.toList.take k) : Nat) : Int)) (fun _ i => s.size - (intOf i).toNat)
  case atStart => exact ⟨0, Nat.zero_le _, rfl, rfl⟩
  case round =>
    obtain ⟨k, hk, rfl, rfl⟩ := hrel
    by_cases hlt : k < s.size
    · have hts := bytes_take s k hlt
      have hb := s[k].toNat_lt
      have hh := hsum_lt (s.data.toList.take k)
      generalize hy : s[k] = y at *
      have hsn := hsum_snoc (s.data.toList.take k) y
      rw [← hts] at hsn
      generalize hsum (s.data.toList.take k) = h at *
      have HN := Lib.hid hsn
      clear hsn hts
      have f1 : bits .xor .u64 (h : Int) ((y.toNat : Nat) : Int) = ((h ^^^ y.toNat : Nat) : Int) := bits_xor_u64_nat h y.toNat hh (by omega)
      have f2 : IntKind.u64.wrap (((h ^^^ y.toNat : Nat) : Int) * 1099511628211) = (((h ^^^ y.toNat) * 1099511628211 % 18446744073709551616 : Nat) : Int) := by rw [IntKind.wrap_u64]; omega
      generalize (h ^^^ y.toNat) * 1099511628211 % 18446744073709551616 = r at *
      generalize h ^^^ y.toNat = x at *
      go_wp2
      go_round
      case rel => exact ⟨k + 1, by omega, by go_num, by rw [HN.out]⟩
      case measure => simp [intOf]; omega
    · obtain rfl : k = s.size := by omega
      go_wp2
      go_ret
      exact ⟨by rw [List.take_of_length_le (by simp)]; rfl, rfl⟩
set_option maxRecDepth 100000 in
theorem rhash (s : ByteArray) (hs : s.size ≤ 100) (w : World) :
    Calls Try.prog 63 #[.string s] w fun e w' => e = .returned (.int .u64 ((hsum s.data.toList : Nat) : Int)) ∧ w = w' := by
  go_enter Try.func63, Try.ntmps63
  go_wp2
  go_loop [3, 4] (fun n i => ∃ k : Nat, k ≤ s.size ∧ i = .int .i64 k ∧ n = .int .u64 ((hsum (s.data.toList.take k) : Nat) : Int)) (fun _ i => s.size - (intOf i).toNat)
  case atStart => exact ⟨0, Nat.zero_le _, rfl, rfl⟩
  case round =>
    obtain ⟨k, hk, rfl, rfl⟩ := hrel
    by_cases hlt : k < s.size
    · have hts := bytes_take s k hlt
      have hb := s[k].toNat_lt
      have hh := hsum_lt (s.data.toList.take k)
      generalize hy : s[k] = y at *
      have hsn := hsum_snoc (s.data.toList.take k) y
      rw [← hts] at hsn
      generalize hsum (s.data.toList.take k) = h at *
      have HN := Lib.hid hsn
      clear hsn hts
      have f1 : bits .xor .u64 (h : Int) ((y.toNat : Nat) : Int) = ((h ^^^ y.toNat : Nat) : Int) := bits_xor_u64_nat h y.toNat hh (by omega)
      have f2 : IntKind.u64.wrap (((h ^^^ y.toNat : Nat) : Int) * 1099511628211) = (((h ^^^ y.toNat) * 1099511628211 % 18446744073709551616 : Nat) : Int) := by rw [IntKind.wrap_u64]; omega
      generalize (h ^^^ y.toNat) * 1099511628211 % 18446744073709551616 = r at *
      generalize h ^^^ y.toNat = x at *
      go_wp2
      go_round
      case rel => exact ⟨k + 1, by omega, by go_num, by rw [HN.out]⟩
      case measure => simp [intOf]; omega
    · obtain rfl : k = s.size := by omega
      go_wp2
      go_ret
      exact ⟨by rw [List.take_of_length_le (by simp)]; rfl, rfl⟩

theorem rmix (x : Nat) (w : World) :
    Calls Try.prog 61 #[.int .u64 (x : Int)] w fun e w' => e = .returned (.int .u64 ((x * 11400714819323198485 % 18446744073709551616 : Nat) : Int)) ∧ w = w' := by
  go_enter Try.func61, Try.ntmps61
  go_wp2
  go_ret
  exact ⟨by rw [IntKind.wrap_u64]; simp, rfl⟩
theorem rwords_call (n : Nat) (hn : n < 18446744073709551616) (w : World) :
    Calls Try.prog 60 #[.int .u64 (n : Int)] w fun e w' => e = .returned (.int .u64 (((n + 7) / 8 : Nat) : Int)) ∧ w = w' := by
  by_cases h : n % 8 = 0
  · have t : ((n : Int) % 8 == 0) = true := by rw [beq_iff_eq]; omega
    go_enter Try.func60, Try.ntmps60
    go_wp2
    go_ret
    exact ⟨by simp; omega, rfl⟩
  · have t : ((n : Int) % 8 == 0) = false := by rw [beq_eq_false_iff_ne]; omega
    go_enter Try.func60, Try.ntmps60
    go_wp2
    go_ret
    exact ⟨by simp; omega, rfl⟩
theorem radd_ok (x y : Nat) (h : x + y < 18446744073709551616) (w : World) :
    Calls Try.prog 69 #[.int .u64 (x : Int), .int .u64 (y : Int)] w fun e w' => e = .returned (.tuple #[.int .u64 ((x + y : Nat) : Int), .bool true]) ∧ w = w' := by
  have t : decide (18446744073709551615 - (x : Int) < y) = false := decide_eq_false (by omega)
  go_enter Try.func69, Try.ntmps69
  go_wp2
  go_ret2
  exact ⟨rfl, rfl⟩
theorem radd_bad (x y : Nat) (hx : x < 18446744073709551616) (h : ¬ x + y < 18446744073709551616) (w : World) :
    Calls Try.prog 69 #[.int .u64 (x : Int), .int .u64 (y : Int)] w fun e w' => e = .returned (.tuple #[.int .u64 0, .bool false]) ∧ w = w' := by
  have t : decide (18446744073709551615 - (x : Int) < y) = true := decide_eq_true (by omega)
  go_enter Try.func69, Try.ntmps69
  go_wp2
  go_ret2
  exact ⟨rfl, rfl⟩
end Go.Proofs.Ck
