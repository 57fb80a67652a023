/- Words: a name as two words and back: what both make of it. -/
import Derived.Test.YtpakfelekphbmaaName4
import Derived.Test.YtpakfelekphbmaaAwake1
namespace Go.Proofs.Ck
open Go Go.RowKit

theorem nm_bytes (s : ByteArray) (n : Nat) (hn : n = s.size) : (nm s).drop 1 = s.data.toList.map (·.toNat) ∧ (nm s).getD 0 0 = n := by
  subst hn; exact ⟨rfl, rfl⟩
theorem dg_packed (s : ByteArray) (h15 : s.size ≤ 15) : ∀ i, i < 16 → (nm s).getD i 0 = dg (pk ((nm s).take 8)) (pk ((nm s).drop 8)) i := by
  have hb := nm_lt (s := s) (by omega)
  have hl := nm_length s
  refine (packed_eq (by omega) hb ?_ ?_).1 ⟨rfl, rfl⟩
  · have := pk_lt ((nm s).take 8) (fun b hb' => hb b (List.mem_of_mem_take hb'))
    exact Nat.lt_of_lt_of_le this (Nat.le_trans (Nat.pow_le_pow_right (by omega) (show ((nm s).take 8).length ≤ 8 by rw [List.length_take]; omega)) (by decide))
  · have := pk_lt ((nm s).drop 8) (fun b hb' => hb b (List.mem_of_mem_drop hb'))
    exact Nat.lt_of_lt_of_le this (Nat.le_trans (Nat.pow_le_pow_right (by omega) (show ((nm s).drop 8).length ≤ 8 by rw [List.length_drop]; omega)) (by decide))
theorem pk8_lt {l : List Nat} (hb : ∀ b ∈ l, b < 256) (hl : l.length ≤ 8) : pk l < 18446744073709551616 :=
  Nat.lt_of_lt_of_le (pk_lt l hb) (Nat.le_trans (Nat.pow_le_pow_right (by omega) hl) (by decide))
theorem name_packed (s : ByteArray) (h1 : 1 ≤ s.size) (h15 : s.size ≤ 15) : isName (pk ((nm s).take 8)) (pk ((nm s).drop 8)) ∧ nameOf (pk ((nm s).take 8)) (pk ((nm s).drop 8)) = s := by
  have hd := dg_packed s h15
  have hl := nm_length s
  have d0 : dg (pk ((nm s).take 8)) (pk ((nm s).drop 8)) 0 = s.size := (hd 0 (by omega)).symm
  have hn : isName (pk ((nm s).take 8)) (pk ((nm s).drop 8)) := by
    refine ⟨by omega, by omega, fun i hi h16 => ?_⟩
    rw [← hd i h16]
    rw [d0] at hi
    simp [List.getD_eq_getElem?_getD, List.getElem?_eq_none (show (nm s).length ≤ i by omega)]
  refine ⟨hn, ?_⟩
  rw [nameOf, if_pos hn, d0]
  have e : bl (pk ((nm s).take 8)) (pk ((nm s).drop 8)) s.size = s.data.toList.map (·.toNat) := by
    apply List.ext_getElem
    · rw [bl_length]; simp
    · intro i h1' h2'
      rw [bl_length] at h1'
      have := hd (i + 1) (by omega)
      simp only [bl, List.getElem_map, List.getElem_range]
      rw [← this]
      simp [nm, List.getD_eq_getElem?_getD, h1']
  rw [e, strOf_bytes]

/-- What both packs make of a string. -/
theorem packs_any (s : ByteArray) : ∃ (p0 p1 : Nat) (b : Bool), p0 < 18446744073709551616 ∧ p1 < 18446744073709551616 ∧
    (∀ w, Calls Try.prog 64 #[.string s] w fun e w' => e = .returned (.tuple #[.agg #[.int .u64 (p0 : Int), .int .u64 (p1 : Int)], .bool b]) ∧ Grow w w') ∧
    (∀ w, Calls Try.prog 65 #[.string s] w fun e w' => e = .returned (.tuple #[.agg #[.int .u64 (p0 : Int), .int .u64 (p1 : Int)], .bool b]) ∧ Grow w w') ∧
    decide (isName p0 p1) = b ∧ (b = true → nameOf p0 p1 = s) ∧ (1 ≤ s.size → s.size ≤ 15 → b = true ∧ p0 = pk ((nm s).take 8) ∧ p1 = pk ((nm s).drop 8)) := by
  by_cases h : 1 ≤ s.size ∧ s.size ≤ 15
  · obtain ⟨h1, h15⟩ := h
    have hb := nm_lt (s := s) (by omega)
    have hl := nm_length s
    obtain ⟨hn, he⟩ := name_packed s h1 h15
    refine ⟨pk ((nm s).take 8), pk ((nm s).drop 8), true, pk8_lt (fun b h => hb b (List.mem_of_mem_take h)) (by rw [List.length_take]; omega), pk8_lt (fun b h => hb b (List.mem_of_mem_drop h)) (by rw [List.length_drop]; omega),
      fun w => pack_ok s h1 h15 w, fun w => rpack_ok s h1 h15 w, decide_eq_true hn, fun _ => he, fun _ _ => ⟨rfl, rfl, rfl⟩⟩
  · refine ⟨0, 0, false, by omega, by omega, fun w => pack_bad s (by omega) w, fun w => rpack_bad s (by omega) w, ?_, fun h => (by cases h), fun h1 h15 => absurd ⟨h1, h15⟩ h⟩
    refine decide_eq_false fun hn => ?_
    have := hn.1
    simp [dg, byteOf] at this
/-- What a pack makes of two words' name. -/
theorem packs_name {w0 w1 : Nat} (h0 : w0 < 18446744073709551616) (h1 : w1 < 18446744073709551616) {p0 p1 : Nat} {b : Bool} (hn : isName w0 w1)
    (h : 1 ≤ (nameOf w0 w1).size → (nameOf w0 w1).size ≤ 15 → b = true ∧ p0 = pk ((nm (nameOf w0 w1)).take 8) ∧ p1 = pk ((nm (nameOf w0 w1)).drop 8)) : b = true ∧ p0 = w0 ∧ p1 = w1 := by
  have e : nameOf w0 w1 = strOf (bl w0 w1 (dg w0 w1 0)) := if_pos hn
  have hs : (nameOf w0 w1).size = dg w0 w1 0 := by rw [e, strOf_size, bl_length]
  obtain ⟨r1, r2, r3⟩ := h (by rw [hs]; exact hn.1) (by rw [hs]; exact hn.2.1)
  have hh := hn.2.1
  have hh1 := hn.1
  have := (packs_iff (n := dg w0 w1 0) h0 h1 (by omega) hn.1).2 hn
  rw [← e] at this
  exact ⟨r1, by rw [r2]; exact this.1, by rw [r3]; exact this.2⟩
end Go.Proofs.Ck
