/- A part of the proofs of this seat's laws. -/
import Derived.Test.YtpakfelekphbmaaRbytes
namespace Go.Proofs.Ck
open Go Go.RowKit

theorem or_nil_size (w : World) : Calls Try.prog 58 #[.pointer none] w fun e w' => e = .returned (.int .u64 0) ∧ w = w' := size_nil w

attribute [local go_sem] Oper.semAt_some wide_fn wide_depth wide_in_fn wide_in_depth

set_option maxHeartbeats 400000 in
theorem load_nil (w : World) (off : Nat) (ho : off < 18446744073709551616) :
    Calls Try.prog 57 #[.pointer none, .int .u64 (off : Int)] w fun e w' => e = .returned (.tuple #[.int .u64 0, .int .i64 1]) ∧ w = w' := by
  refine calls_of_range Try.func57 rfl ?_
  simp only [Try.ntmps57, List.size_toArray, List.length_cons, List.length_nil, Nat.reduceAdd, Nat.reduceSub, Array.replicate_succ, Array.replicate_zero, List.push_toArray, List.append_toArray, List.nil_append, List.cons_append]
  gi_wp2_with (gi_at_call 145; refine (ranged (in_nil _ off (by omega) (by omega))).mono ?_; rintro e w' ⟨rfl, rfl⟩)
  exact marks_none (results_tmp2 rfl _ _ _) ⟨rfl, rfl⟩

set_option maxHeartbeats 400000 in
theorem load_bad {w : World} {sb bb cap : Nat} {cs : Array Value} {W : List Nat} (h : SegRep w sb bb cap cs W) (off : Nat) (ho : off < 18446744073709551616) (hm : ¬ (off % 8 = 0 ∧ off / 8 < W.length)) :
    Calls Try.prog 57 #[.pointer (some ⟨sb, 0, none⟩), .int .u64 (off : Int)] w fun e w' => e = .returned (.tuple #[.int .u64 0, .int .i64 1]) ∧ w = w' := by
  refine calls_of_range Try.func57 rfl ?_
  simp only [Try.ntmps57, List.size_toArray, List.length_cons, List.length_nil, Nat.reduceAdd, Nat.reduceSub, Array.replicate_succ, Array.replicate_zero, List.push_toArray, List.append_toArray, List.nil_append, List.cons_append]
  gi_wp2_with (gi_at_call 145; refine (ranged (in_bad h off ho hm)).mono ?_; rintro e w' ⟨rfl, rfl⟩)
  exact marks_none (results_tmp2 rfl _ _ _) ⟨rfl, rfl⟩

set_option maxHeartbeats 400000 in
theorem store_nil (w : World) (off v : Nat) (ho : off < 18446744073709551616) :
    Calls Try.prog 56 #[.pointer none, .int .u64 (off : Int), .int .u64 (v : Int)] w fun e w' => e = .returned (.int .i64 1) ∧ Grow w w' := by
  go_enter Try.func56, Try.ntmps56
  go_wp2_with (go_at_call 145; refine (in_nil _ off (by omega) (by omega)).mono ?_; rintro e w' ⟨rfl, rfl⟩)
  go_ret
  exact ⟨rfl, (Below.refl _ w).alloc (Nat.le_refl _) _⟩

set_option maxHeartbeats 400000 in
theorem store_bad {w : World} {sb bb cap : Nat} {cs : Array Value} {W : List Nat} (h : SegRep w sb bb cap cs W) (off v : Nat) (ho : off < 18446744073709551616) (hm : ¬ (off % 8 = 0 ∧ off / 8 < W.length)) :
    Calls Try.prog 56 #[.pointer (some ⟨sb, 0, none⟩), .int .u64 (off : Int), .int .u64 (v : Int)] w fun e w' => e = .returned (.int .i64 1) ∧ Grow w w' := by
  go_enter Try.func56, Try.ntmps56
  go_wp2_with (go_at_call 145; refine (in_bad (h.grow ((Below.refl _ w).alloc (Nat.le_refl _) _)) off ho hm).mono ?_; rintro e w' ⟨rfl, rfl⟩)
  go_ret
  exact ⟨rfl, (Below.refl _ w).alloc (Nat.le_refl _) _⟩

/-- A segment, or nobody's: then it has no words. -/
def SegLike (w : World) (v : Value) (W : List Nat) : Prop :=
  (v = .pointer none ∧ W = []) ∨ ∃ sb bb cap cs, v = .pointer (some ⟨sb, 0, none⟩) ∧ SegRep w sb bb cap cs W
theorem SegLike.grow {w w' : World} {v : Value} {W : List Nat} (h : SegLike w v W) (hg : Grow w w') : SegLike w' v W := by
  rcases h with h | ⟨sb, bb, cap, cs, rfl, h⟩
  · exact .inl h
  · exact .inr ⟨sb, bb, cap, cs, rfl, h.grow hg⟩
theorem SegLike.small {w : World} {v : Value} {W : List Nat} (h : SegLike w v W) : 8 * W.length ≤ 140737488351232 := by
  rcases h with ⟨_, rfl⟩ | ⟨sb, bb, cap, cs, rfl, h⟩
  · simp
  · exact h.small
theorem SegLike.words {w : World} {v : Value} {W : List Nat} (h : SegLike w v W) : ∀ x ∈ W, x < 18446744073709551616 := by
  rcases h with ⟨_, rfl⟩ | ⟨sb, bb, cap, cs, rfl, h⟩
  · intro x hx; cases hx
  · exact h.words
theorem size_any {w : World} {v : Value} {W : List Nat} (h : SegLike w v W) : Calls Try.prog 58 #[v] w fun e w' => e = .returned (.int .u64 ((8 * W.length : Nat) : Int)) ∧ w = w' := by
  rcases h with ⟨rfl, rfl⟩ | ⟨sb, bb, cap, cs, rfl, h⟩
  · exact (size_nil w).mono fun e w' ⟨h1, h2⟩ => ⟨by rw [h1]; rfl, h2⟩
  · exact size_some sb _ _ _ w h.head (by have := h.small; omega)
theorem load_any_ok {w : World} {v : Value} {W : List Nat} (h : SegLike w v W) (off : Nat) (hm : off % 8 = 0) (hlt : off / 8 < W.length) :
    Calls Try.prog 57 #[v, .int .u64 (off : Int)] w fun e w' => e = .returned (.tuple #[.int .u64 ((W.getD (off / 8) 0 : Nat) : Int), .int .i64 0]) ∧ Grow w w' := by
  rcases h with ⟨rfl, rfl⟩ | ⟨sb, bb, cap, cs, rfl, h⟩
  · exact absurd hlt (by simp)
  · exact load_ok h off hm hlt
theorem load_any_bad {w : World} {v : Value} {W : List Nat} (h : SegLike w v W) (off : Nat) (ho : off < 18446744073709551616) (hm : ¬ (off % 8 = 0 ∧ off / 8 < W.length)) :
    Calls Try.prog 57 #[v, .int .u64 (off : Int)] w fun e w' => e = .returned (.tuple #[.int .u64 0, .int .i64 1]) ∧ Grow w w' := by
  rcases h with ⟨rfl, rfl⟩ | ⟨sb, bb, cap, cs, rfl, h⟩
  · exact (load_nil w off ho).mono fun e w' ⟨h1, h2⟩ => ⟨h1, h2 ▸ Below.refl _ _⟩
  · exact (load_bad h off ho hm).mono fun e w' ⟨h1, h2⟩ => ⟨h1, h2 ▸ Below.refl _ _⟩

/-- What a load tells of word k. -/
def told (W : List Nat) (k : Nat) : Nat × Nat := if k < W.length then (W.getD k 0, 0) else (0, 1)
theorem told_eq {a b : List Nat} {k : Nat} : told a k = told b k ↔ a[k]? = b[k]? := by
  unfold told
  by_cases ha : k < a.length <;> by_cases hb : k < b.length <;> simp [ha, hb, List.getD_eq_getElem?_getD]
theorem told_le (a : List Nat) (k : Nat) : (told a k).2 ≤ 1 := by unfold told; split <;> simp
theorem load_any {w : World} {v : Value} {W : List Nat} (h : SegLike w v W) (k : Nat) (ho : 8 * k < 18446744073709551616) :
    Calls Try.prog 57 #[v, .int .u64 (8 * (k : Int))] w fun e w' => e = .returned (.tuple #[.int .u64 ((told W k).1 : Int), .int .i64 ((told W k).2 : Int)]) ∧ Grow w w' := by
  have e1 : (8 * (k : Int)) = ((8 * k : Nat) : Int) := by omega
  rw [e1]
  by_cases hk : k < W.length
  · refine (load_any_ok h (8 * k) (by omega) (by omega)).mono fun e w' ⟨h1, h2⟩ => ⟨?_, h2⟩
    rw [h1, told, if_pos hk, Nat.mul_div_cancel_left _ (by omega)]
    rfl
  · refine (load_any_bad h (8 * k) ho (by omega)).mono fun e w' ⟨h1, h2⟩ => ⟨?_, h2⟩
    rw [h1, told, if_neg hk]
    rfl

/-- The offsets of words that are unlike, among the first k. -/
def diffs (a b : List Nat) (k : Nat) : List Nat := ((List.range k).filter fun i => decide (a[i]? ≠ b[i]?)).map (8 * ·)
theorem diffs_hit {a b : List Nat} {k : Nat} (h : a[k]? ≠ b[k]?) : diffs a b (k + 1) = diffs a b k ++ [8 * k] := by simp [diffs, List.range_succ, h]
theorem diffs_miss {a b : List Nat} {k : Nat} (h : a[k]? = b[k]?) : diffs a b (k + 1) = diffs a b k := by simp [diffs, List.range_succ, h]
theorem diffs_len (a b : List Nat) (k : Nat) : (diffs a b k).length ≤ k := by
  rw [diffs, List.length_map]
  exact Nat.le_trans (List.length_filter_le _ _) (by simp)
end Go.Proofs.Ck
