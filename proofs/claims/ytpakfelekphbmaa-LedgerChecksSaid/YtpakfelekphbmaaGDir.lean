/- Parts of the proofs of this seat's laws. -/
import Derived.Test.YtpakfelekphbmaaGName
import Derived.Test.YtpakfelekphbmaaGTx
import Derived.Test.YtpakfelekphbmaaGClient

namespace Go.Proofs.Ck
open Go Go.RowKit

/-- Where a slot begins. -/
def sl (i : Nat) : Nat := 3392 + 24 * (i % 16)
theorem sl_mod (i : Nat) : sl (i % 16) = sl i := by unfold sl; omega
theorem sl_pos (i : Nat) : sl i ≠ 0 := by unfold sl; omega
theorem sl_inj {i j : Nat} (hi : i < 16) (hj : j < 16) (h : sl i = sl j) : i = j := by unfold sl at h; omega
/-- A slot's payload, by its turn on a way. -/
def pay (f : Nat → Nat) (h i : Nat) : Nat := f (sl (h + i) + 16)
def hit (f : Nat → Nat) (h w0 w1 i : Nat) : Bool := decide (1 < pay f h i) && (decide (f (sl (h + i)) = w0) && decide (f (sl (h + i) + 8) = w1))
def halt (f : Nat → Nat) (h w0 w1 i : Nat) : Bool := decide (pay f h i = 0) || hit f h w0 w1 i
/-- The first slot of a way's first k that has room. -/
def roomN (f : Nat → Nat) (h k : Nat) : Nat := match (List.range k).find? (fun i => decide (pay f h i < 2)) with | some i => sl (h + i) | none => 0
/-- The turn at which a search stops. -/
def turnN (f : Nat → Nat) (h w0 w1 : Nat) : Option Nat := (List.range 16).find? (halt f h w0 w1)
/-- Where two words stand: 0: nowhere. -/
def standN (f : Nat → Nat) (h w0 w1 : Nat) : Nat := match turnN f h w0 w1 with | some i => if pay f h i = 0 then 0 else sl (h + i) | none => 0
/-- The room that a search found on its way. -/
def spotN (f : Nat → Nat) (h w0 w1 : Nat) : Nat := match turnN f h w0 w1 with | some i => roomN f h (i + 1) | none => roomN f h 16

theorem find_range {p : Nat → Bool} {n i : Nat} : (List.range n).find? p = some i ↔ i < n ∧ p i = true ∧ ∀ j, j < i → p j = false := by
  induction n with
  | zero => simp
  | succ n ih =>
    rw [List.range_succ, List.find?_append]
    cases h : (List.range n).find? p with
    | none =>
      have hn := List.find?_eq_none.1 h
      simp only [Option.none_or, List.find?_cons]
      cases hp : p n with
      | true =>
        simp only [Option.some.injEq]
        constructor
        · rintro rfl
          exact ⟨by omega, hp, fun j hj => by simpa using hn j (List.mem_range.2 hj)⟩
        · rintro ⟨h1, h2, h3⟩
          by_cases he : i < n
          · exact absurd h2 (hn i (List.mem_range.2 he))
          · omega
      | false =>
        simp only [List.find?_nil]
        constructor
        · intro h; cases h
        · rintro ⟨h1, h2, h3⟩
          by_cases he : i < n
          · exact absurd h2 (hn i (List.mem_range.2 he))
          · have : i = n := by omega
            subst this
            rw [hp] at h2; cases h2
    | some m =>
      rw [h] at ih
      simp only [Option.some_or]
      constructor
      · intro e
        have := (ih.1 e)
        exact ⟨by omega, this.2⟩
      · rintro ⟨h1, h2, h3⟩
        have hm := List.find?_some h
        have hmn := List.mem_range.1 (List.mem_of_find?_eq_some h)
        by_cases he : i < n
        · exact ih.2 ⟨he, h2, h3⟩
        · have := h3 m (by omega)
          rw [hm] at this; cases this
theorem find_none {p : Nat → Bool} {n : Nat} : (List.range n).find? p = none ↔ ∀ j, j < n → p j = false := by
  rw [List.find?_eq_none]
  constructor
  · intro h j hj; simpa using h j (List.mem_range.2 hj)
  · intro h j hj; simp [h j (List.mem_range.1 hj)]

theorem roomN_zero (f : Nat → Nat) (h : Nat) : roomN f h 0 = 0 := rfl
theorem roomN_hit {f : Nat → Nat} {h k : Nat} (h0 : roomN f h k = 0) (h1 : pay f h k < 2) : roomN f h (k + 1) = sl (h + k) := by
  unfold roomN at h0 ⊢
  rw [List.range_succ, List.find?_append]
  cases hf : (List.range k).find? (fun i => decide (pay f h i < 2)) with
  | none => simp [h1]
  | some m => rw [hf] at h0; exact absurd h0 (sl_pos _)
theorem roomN_miss {f : Nat → Nat} {h k : Nat} (h1 : ¬ pay f h k < 2) : roomN f h (k + 1) = roomN f h k := by
  unfold roomN
  rw [List.range_succ, List.find?_append]
  cases hf : (List.range k).find? (fun i => decide (pay f h i < 2)) with
  | none => simp [h1]
  | some m => rfl
theorem roomN_have {f : Nat → Nat} {h k : Nat} (h0 : roomN f h k ≠ 0) : roomN f h (k + 1) = roomN f h k := by
  unfold roomN at h0 ⊢
  rw [List.range_succ, List.find?_append]
  cases hf : (List.range k).find? (fun i => decide (pay f h i < 2)) with
  | none => rw [hf] at h0; exact absurd rfl h0
  | some m => rfl
theorem roomN_more {f : Nat → Nat} {h k m : Nat} (h0 : roomN f h k ≠ 0) (hm : k ≤ m) : roomN f h m = roomN f h k := by
  induction m with
  | zero => have : k = 0 := by omega
            subst this; rfl
  | succ m ih =>
    by_cases he : k = m + 1
    · rw [he]
    · have hi := ih (by omega)
      rw [roomN_have (by rw [hi]; exact h0), hi]
theorem roomN_none {f : Nat → Nat} {h k : Nat} : roomN f h k = 0 ↔ ∀ i, i < k → 2 ≤ pay f h i := by
  unfold roomN
  cases hf : (List.range k).find? (fun i => decide (pay f h i < 2)) with
  | none =>
    simp only [true_iff]
    intro i hi
    have := find_none.1 hf i hi
    simpa using this
  | some m =>
    constructor
    · intro e; exact absurd e (sl_pos _)
    · intro e
      obtain ⟨h1, h2, _⟩ := find_range.1 hf
      have := e m h1
      simp at h2; omega
theorem roomN_some {f : Nat → Nat} {h k : Nat} (h0 : roomN f h k ≠ 0) : ∃ i, i < k ∧ roomN f h k = sl (h + i) ∧ pay f h i < 2 ∧ ∀ j, j < i → 2 ≤ pay f h j := by
  unfold roomN at h0 ⊢
  cases hf : (List.range k).find? (fun i => decide (pay f h i < 2)) with
  | none => rw [hf] at h0; exact absurd rfl h0
  | some m =>
    obtain ⟨h1, h2, h3⟩ := find_range.1 hf
    refine ⟨m, h1, rfl, by simpa using h2, fun j hj => ?_⟩
    have := h3 j hj
    simp at this; omega
/-- What a search finds of room, if it finds no name, is the first of all the way. -/
theorem spotN_room {f : Nat → Nat} {h w0 w1 : Nat} (h0 : standN f h w0 w1 = 0) : spotN f h w0 w1 = roomN f h 16 := by
  unfold standN at h0
  unfold spotN
  cases ht : turnN f h w0 w1 with
  | none => rfl
  | some i =>
    rw [ht] at h0
    simp only at h0 ⊢
    by_cases hp : pay f h i = 0
    · have hi := (find_range.1 ht).1
      have hne : roomN f h (i + 1) ≠ 0 := fun e => by
        have := roomN_none.1 e i (by omega)
        omega
      exact (roomN_more hne (by omega)).symm
    · rw [if_neg hp] at h0
      exact absurd h0 (sl_pos _)

/-- A name's words, whether it is one, and its number. -/
def okN (s : ByteArray) : Bool := decide (1 ≤ s.size ∧ s.size ≤ 15)
def n0 (s : ByteArray) : Nat := if okN s = true then pk ((nm s).take 8) else 0
def n1 (s : ByteArray) : Nat := if okN s = true then pk ((nm s).drop 8) else 0
def hN (s : ByteArray) : Nat := hsum s.data.toList
theorem okN_iff (s : ByteArray) : okN s = true ↔ 1 ≤ s.size ∧ s.size ≤ 15 := by simp [okN]
theorem n01_lt (s : ByteArray) : n0 s < 18446744073709551616 ∧ n1 s < 18446744073709551616 := by
  unfold n0 n1
  by_cases h : okN s = true
  · rw [if_pos h, if_pos h]
    obtain ⟨h1, h15⟩ := (okN_iff s).1 h
    have hb := nm_lt (s := s) (by omega)
    have hl := nm_length s
    exact ⟨pk8_lt (fun b h => hb b (List.mem_of_mem_take h)) (by rw [List.length_take]; omega), pk8_lt (fun b h => hb b (List.mem_of_mem_drop h)) (by rw [List.length_drop]; omega)⟩
  · rw [if_neg h, if_neg h]; omega
theorem n01_name {s : ByteArray} (h : okN s = true) : isName (n0 s) (n1 s) ∧ nameOf (n0 s) (n1 s) = s := by
  obtain ⟨h1, h15⟩ := (okN_iff s).1 h
  unfold n0 n1
  rw [if_pos h, if_pos h]
  exact name_packed s h1 h15
theorem n01_inj {s t : ByteArray} (hs : okN s = true) (ht : okN t = true) (h0 : n0 s = n0 t) (h1 : n1 s = n1 t) : s = t := by
  rw [← (n01_name hs).2, ← (n01_name ht).2, h0, h1]

/-- Where a name stands. -/
def standS (f : Nat → Nat) (s : ByteArray) : Nat := if okN s = true then standN f (hN s) (n0 s) (n1 s) else 0
def spotS (f : Nat → Nat) (s : ByteArray) : Nat := if okN s = true then spotN f (hN s) (n0 s) (n1 s) else 0
def placeS (f : Nat → Nat) (s : ByteArray) : Nat := roomN f (hN s) 16
def roomE (f : Nat → Nat) (s : ByteArray) : Nat := if okN s = true then if standS f s = 0 then if placeS f s = 0 then 9 else 0 else 7 else 8
def putE (f : Nat → Nat) (s : ByteArray) (off : Nat) : Nat := if roomE f s = 0 then if off < 2 then 1 else 0 else roomE f s
def putS (σ : St) (s : ByteArray) (off : Nat) : St :=
  if putE σ.load s off = 0 then ((σ.store (placeS σ.load s) (n0 s)).store (placeS σ.load s + 8) (n1 s)).store (placeS σ.load s + 16) off else σ
def putF (f : Nat → Nat) (s : ByteArray) (off : Nat) : Nat → Nat :=
  if putE f s off = 0 then upd (upd (upd f (placeS f s) (n0 s)) (placeS f s + 8) (n1 s)) (placeS f s + 16) off else f
def dropS (σ : St) (s : ByteArray) : St := if standS σ.load s = 0 then σ else σ.store (standS σ.load s + 16) 1
def dropF (f : Nat → Nat) (s : ByteArray) : Nat → Nat := if standS f s = 0 then f else upd f (standS f s + 16) 1
def findV (f : Nat → Nat) (s : ByteArray) : Nat := if standS f s = 0 then 0 else f (standS f s + 16)
def findB (f : Nat → Nat) (s : ByteArray) : Bool := decide (standS f s ≠ 0)
def namedB (f : Nat → Nat) (p : Nat) : Bool := (List.range 16).any fun i => decide (1 < p) && decide (f (sl i + 16) = p)
noncomputable def entsN (f : Nat → Nat) (k : Nat) : List (ByteArray × Nat) :=
  (List.range k).filterMap fun i => if 1 < f (sl i + 16) ∧ isName (f (sl i)) (f (sl i + 8)) then some (nameOf (f (sl i)) (f (sl i + 8)), f (sl i + 16)) else none
theorem standN_cases (f : Nat → Nat) (h w0 w1 : Nat) : standN f h w0 w1 = 0 ∨ ∃ j, j < 16 ∧ standN f h w0 w1 = sl j ∧ 1 < f (sl j + 16) ∧ f (sl j) = w0 ∧ f (sl j + 8) = w1 := by
  unfold standN
  cases ht : turnN f h w0 w1 with
  | none => exact .inl rfl
  | some i =>
    obtain ⟨h1, h2, _⟩ := find_range.1 ht
    simp only
    by_cases hp : pay f h i = 0
    · rw [if_pos hp]; exact .inl rfl
    · rw [if_neg hp]
      refine .inr ⟨(h + i) % 16, by omega, (sl_mod _).symm, ?_⟩
      rw [sl_mod]
      unfold pay at hp
      unfold halt hit pay at h2
      simp only [Bool.or_eq_true, Bool.and_eq_true, decide_eq_true_eq] at h2
      rcases h2 with h2 | h2
      · exact absurd h2 hp
      · exact h2
theorem standS_cases (f : Nat → Nat) (s : ByteArray) : standS f s = 0 ∨ okN s = true ∧ ∃ j, j < 16 ∧ standS f s = sl j ∧ 1 < f (sl j + 16) ∧ f (sl j) = n0 s ∧ f (sl j + 8) = n1 s := by
  unfold standS
  by_cases h : okN s = true
  · rw [if_pos h]
    rcases standN_cases f (hN s) (n0 s) (n1 s) with h1 | h1
    · exact .inl h1
    · exact .inr ⟨h, h1⟩
  · rw [if_neg h]; exact .inl rfl
theorem placeS_cases (f : Nat → Nat) (s : ByteArray) : placeS f s = 0 ∨ ∃ j, j < 16 ∧ placeS f s = sl j ∧ f (sl j + 16) < 2 := by
  by_cases h : placeS f s = 0
  · exact .inl h
  · obtain ⟨i, hi, h1, h2, _⟩ := roomN_some h
    exact .inr ⟨(hN s + i) % 16, by omega, by rw [sl_mod]; exact h1, by rw [sl_mod]; exact h2⟩
theorem putE_zero {f : Nat → Nat} {s : ByteArray} {off : Nat} (h : putE f s off = 0) : okN s = true ∧ standS f s = 0 ∧ placeS f s ≠ 0 ∧ 2 ≤ off := by
  unfold putE at h
  by_cases hr : roomE f s = 0
  · rw [if_pos hr] at h
    unfold roomE at hr
    by_cases h1 : okN s = true
    · rw [if_pos h1] at hr
      by_cases h2 : standS f s = 0
      · rw [if_pos h2] at hr
        by_cases h3 : placeS f s = 0
        · rw [if_pos h3] at hr; omega
        · refine ⟨h1, h2, h3, ?_⟩
          by_cases h4 : off < 2
          · rw [if_pos h4] at h; omega
          · omega
      · rw [if_neg h2] at hr; omega
    · rw [if_neg h1] at hr; omega
  · rw [if_neg hr] at h; exact absurd h hr
end Go.Proofs.Ck

namespace Go.Proofs.Ck
open Go Go.RowKit

structure Good (f : Nat → Nat) : Prop where
  name : ∀ j, j < 16 → 1 < f (sl j + 16) → ∃ s, okN s = true ∧ f (sl j) = n0 s ∧ f (sl j + 8) = n1 s ∧ ∃ i, i < 16 ∧ (hN s + i) % 16 = j ∧ ∀ k, k < i → f (sl (hN s + k) + 16) ≠ 0
  one : ∀ i j, i < 16 → j < 16 → 1 < f (sl i + 16) → 1 < f (sl j + 16) → f (sl i) = f (sl j) → f (sl i + 8) = f (sl j + 8) → i = j
/-- A name stands in a slot. -/
def hasAt (f : Nat → Nat) (s : ByteArray) (j : Nat) : Prop := 1 < f (sl j + 16) ∧ f (sl j) = n0 s ∧ f (sl j + 8) = n1 s
def Has (f : Nat → Nat) (s : ByteArray) (off : Nat) : Prop := ∃ j, j < 16 ∧ hasAt f s j ∧ f (sl j + 16) = off

theorem Good.stand {f : Nat → Nat} (g : Good f) {s : ByteArray} (hs : okN s = true) {j : Nat} (hj : j < 16) (h : hasAt f s j) : standS f s = sl j := by
  obtain ⟨hp, hw0, hw1⟩ := h
  obtain ⟨t, ht, e0, e1, i, hi, hij, hz⟩ := g.name j hj hp
  have est : t = s := n01_inj ht hs (by rw [← e0, hw0]) (by rw [← e1, hw1])
  subst est
  have hsl : sl (hN t + i) = sl j := by rw [← sl_mod, hij]
  have hfind : turnN f (hN t) (n0 t) (n1 t) = some i := by
    refine find_range.2 ⟨hi, ?_, fun k hk => ?_⟩
    · unfold halt hit pay
      rw [hsl]
      simp [hp, hw0, hw1]
    · have hzk := hz k hk
      unfold halt hit pay
      rw [Bool.or_eq_false_iff]
      refine ⟨by simpa using hzk, ?_⟩
      rw [← Bool.not_eq_true]
      intro hb
      simp only [Bool.and_eq_true, decide_eq_true_eq] at hb
      rw [← sl_mod] at hb
      have := g.one ((hN t + k) % 16) j (by omega) hj hb.1 hp (by rw [hb.2.1, hw0]) (by rw [hb.2.2, hw1])
      omega
  unfold standS standN
  rw [if_pos hs, hfind]
  simp only [pay, hsl]
  rw [if_neg (by omega)]
theorem Good.no {f : Nat → Nat} (g : Good f) {s : ByteArray} (hs : okN s = true) (h0 : standS f s = 0) {j : Nat} (hj : j < 16) : ¬ hasAt f s j := fun h => by
  have := g.stand hs hj h
  rw [h0] at this
  exact sl_pos _ this.symm
theorem has_of_stand {f : Nat → Nat} {s : ByteArray} (h : standS f s ≠ 0) : okN s = true ∧ ∃ j, j < 16 ∧ standS f s = sl j ∧ hasAt f s j := by
  rcases standS_cases f s with h1 | ⟨h1, j, h2, h3, h4⟩
  · exact absurd h1 h
  · exact ⟨h1, j, h2, h3, h4⟩

/-- A slot written. -/
def setSl (f : Nat → Nat) (j x y z : Nat) : Nat → Nat := upd (upd (upd f (sl j) x) (sl j + 8) y) (sl j + 16) z
section
variable {f : Nat → Nat} {j k x y z : Nat}
theorem setSl_0 (hj : j < 16) (hk : k < 16) : setSl f j x y z (sl k) = if k = j then x else f (sl k) := by
  unfold setSl upd
  have e1 : ¬ sl k = sl j + 16 := by unfold sl; omega
  have e2 : ¬ sl k = sl j + 8 := by unfold sl; omega
  rw [if_neg e1, if_neg e2]
  by_cases h : k = j
  · rw [if_pos h, if_pos (by rw [h])]
  · rw [if_neg h, if_neg (fun e => h (sl_inj hk hj e))]
theorem setSl_8 (hj : j < 16) (hk : k < 16) : setSl f j x y z (sl k + 8) = if k = j then y else f (sl k + 8) := by
  unfold setSl upd
  have e1 : ¬ sl k + 8 = sl j + 16 := by unfold sl; omega
  have e2 : ¬ sl k + 8 = sl j := by unfold sl; omega
  rw [if_neg e1]
  by_cases h : k = j
  · rw [if_pos h, if_pos (by rw [h])]
  · rw [if_neg h, if_neg (fun e => h (sl_inj hk hj (by omega))), if_neg e2]
theorem setSl_16 (hj : j < 16) (hk : k < 16) : setSl f j x y z (sl k + 16) = if k = j then z else f (sl k + 16) := by
  unfold setSl upd
  have e1 : ¬ sl k + 16 = sl j + 8 := by unfold sl; omega
  have e2 : ¬ sl k + 16 = sl j := by unfold sl; omega
  by_cases h : k = j
  · rw [if_pos h, if_pos (by rw [h])]
  · rw [if_neg h, if_neg (fun e => h (sl_inj hk hj (by omega))), if_neg e1, if_neg e2]
theorem dropped_0 : upd f (sl j + 16) z (sl k) = f (sl k) := by
  unfold upd
  rw [if_neg (by unfold sl; omega)]
theorem dropped_8 : upd f (sl j + 16) z (sl k + 8) = f (sl k + 8) := by
  unfold upd
  rw [if_neg (by unfold sl; omega)]
theorem dropped_16 (hj : j < 16) (hk : k < 16) : upd f (sl j + 16) z (sl k + 16) = if k = j then z else f (sl k + 16) := by
  unfold upd
  by_cases h : k = j
  · rw [if_pos h, if_pos (by rw [h])]
  · rw [if_neg h, if_neg (fun e => h (sl_inj hk hj (by omega)))]
end

theorem putF_slot {f : Nat → Nat} {s : ByteArray} {off : Nat} (h : putE f s off = 0) : ∃ j i, j < 16 ∧ i < 16 ∧ (hN s + i) % 16 = j ∧ (∀ k, k < i → 2 ≤ f (sl (hN s + k) + 16)) ∧ f (sl j + 16) < 2 ∧ putF f s off = setSl f j (n0 s) (n1 s) off := by
  obtain ⟨h1, h2, h3, h4⟩ := putE_zero h
  obtain ⟨i, hi, e1, e2, e3⟩ := roomN_some h3
  refine ⟨(hN s + i) % 16, i, by omega, hi, rfl, e3, by rw [sl_mod]; exact e2, ?_⟩
  unfold putF
  rw [if_pos h]
  unfold setSl
  rw [sl_mod, show placeS f s = sl (hN s + i) from e1]

theorem Good.put {f : Nat → Nat} (g : Good f) (s : ByteArray) (off : Nat) : Good (putF f s off) := by
  by_cases h : putE f s off = 0
  · obtain ⟨h1, h2, -, h4⟩ := putE_zero h
    obtain ⟨j, i, hj, hi, hij, hbef, hlow, e⟩ := putF_slot h
    rw [e]
    have keep : ∀ m, f (sl m + 16) ≠ 0 → setSl f j (n0 s) (n1 s) off (sl m + 16) ≠ 0 := fun m hm => by
      rw [← sl_mod m] at hm ⊢
      rw [setSl_16 hj (by omega)]
      split
      · omega
      · exact hm
    constructor
    · intro k hk hp
      rw [setSl_16 hj hk] at hp
      rw [setSl_0 hj hk, setSl_8 hj hk]
      by_cases hkj : k = j
      · rw [if_pos hkj, if_pos hkj]
        exact ⟨s, h1, rfl, rfl, i, hi, by rw [hkj]; exact hij, fun m hm => keep _ (by have := hbef m hm; omega)⟩
      · rw [if_neg hkj] at hp ⊢
        rw [if_neg hkj]
        obtain ⟨t, ht, e0, e1, i', hi', hij', hz⟩ := g.name k hk hp
        exact ⟨t, ht, e0, e1, i', hi', hij', fun m hm => keep _ (hz m hm)⟩
    · intro a b ha hb hpa hpb e0 e1
      rw [setSl_16 hj ha] at hpa
      rw [setSl_16 hj hb] at hpb
      rw [setSl_0 hj ha, setSl_0 hj hb] at e0
      rw [setSl_8 hj ha, setSl_8 hj hb] at e1
      by_cases haj : a = j
      · by_cases hbj : b = j
        · rw [haj, hbj]
        · rw [if_pos haj, if_neg hbj] at e0 e1
          rw [if_neg hbj] at hpb
          exact absurd ⟨hpb, e0.symm, e1.symm⟩ (g.no h1 h2 hb)
      · by_cases hbj : b = j
        · rw [if_neg haj, if_pos hbj] at e0 e1
          rw [if_neg haj] at hpa
          exact absurd ⟨hpa, e0, e1⟩ (g.no h1 h2 ha)
        · rw [if_neg haj, if_neg hbj] at e0 e1
          rw [if_neg haj] at hpa
          rw [if_neg hbj] at hpb
          exact g.one a b ha hb hpa hpb e0 e1
  · unfold putF
    rw [if_neg h]
    exact g
theorem Good.drop {f : Nat → Nat} (g : Good f) (s : ByteArray) : Good (dropF f s) := by
  unfold dropF
  by_cases h : standS f s = 0
  · rw [if_pos h]; exact g
  · rw [if_neg h]
    obtain ⟨-, j, hj, e, -⟩ := has_of_stand h
    rw [e]
    have keep : ∀ m, f (sl m + 16) ≠ 0 → upd f (sl j + 16) 1 (sl m + 16) ≠ 0 := fun m hm => by
      rw [← sl_mod m] at hm ⊢
      rw [dropped_16 hj (by omega)]
      split
      · omega
      · exact hm
    constructor
    · intro k hk hp
      rw [dropped_16 hj hk] at hp
      rw [dropped_0, dropped_8]
      by_cases hkj : k = j
      · rw [if_pos hkj] at hp; omega
      · rw [if_neg hkj] at hp
        obtain ⟨t, ht, e0, e1, i', hi', hij', hz⟩ := g.name k hk hp
        exact ⟨t, ht, e0, e1, i', hi', hij', fun m hm => keep _ (hz m hm)⟩
    · intro a b ha hb hpa hpb e0 e1
      rw [dropped_16 hj ha] at hpa
      rw [dropped_16 hj hb] at hpb
      rw [dropped_0, dropped_0] at e0
      rw [dropped_8, dropped_8] at e1
      by_cases haj : a = j
      · rw [if_pos haj] at hpa; omega
      · by_cases hbj : b = j
        · rw [if_pos hbj] at hpb; omega
        · rw [if_neg haj] at hpa
          rw [if_neg hbj] at hpb
          exact g.one a b ha hb hpa hpb e0 e1

theorem Good.find {f : Nat → Nat} (g : Good f) {s : ByteArray} {off : Nat} (hs : okN s = true) (h : Has f s off) : standS f s ≠ 0 ∧ findV f s = off := by
  obtain ⟨j, hj, h1, h2⟩ := h
  have e := g.stand hs hj h1
  have h0 : standS f s ≠ 0 := by rw [e]; exact sl_pos _
  exact ⟨h0, by unfold findV; rw [if_neg h0, e, h2]⟩
theorem has_of_find {f : Nat → Nat} {s : ByteArray} (h : standS f s ≠ 0) : Has f s (findV f s) := by
  obtain ⟨-, j, hj, e, h1⟩ := has_of_stand h
  exact ⟨j, hj, h1, by unfold findV; rw [if_neg h, e]⟩
theorem Has.put_self {f : Nat → Nat} {s : ByteArray} {off : Nat} (h : putE f s off = 0) : Has (putF f s off) s off := by
  obtain ⟨h1, h2, -, h4⟩ := putE_zero h
  obtain ⟨j, i, hj, hi, hij, hbef, hlow, e⟩ := putF_slot h
  rw [e]
  have e16 : setSl f j (n0 s) (n1 s) off (sl j + 16) = off := by rw [setSl_16 hj hj, if_pos rfl]
  refine ⟨j, hj, ⟨by rw [e16]; omega, by rw [setSl_0 hj hj, if_pos rfl], by rw [setSl_8 hj hj, if_pos rfl]⟩, e16⟩
theorem Has.put {f : Nat → Nat} {t : ByteArray} {o : Nat} (h : Has f t o) (s : ByteArray) (off : Nat) : Has (putF f s off) t o := by
  by_cases hp : putE f s off = 0
  · obtain ⟨j, i, hj, hi, hij, hbef, hlow, e⟩ := putF_slot hp
    rw [e]
    obtain ⟨k, hk, ⟨h1, h2, h3⟩, h4⟩ := h
    have hne : ¬ k = j := fun e => by rw [e] at h1; omega
    exact ⟨k, hk, ⟨by rw [setSl_16 hj hk, if_neg hne]; exact h1, by rw [setSl_0 hj hk, if_neg hne]; exact h2, by rw [setSl_8 hj hk, if_neg hne]; exact h3⟩, by rw [setSl_16 hj hk, if_neg hne]; exact h4⟩
  · unfold putF
    rw [if_neg hp]
    exact h
theorem Has.drop {f : Nat → Nat} {t s : ByteArray} {o : Nat} (h : Has f t o) (ht : okN t = true) (hne : s ≠ t) : Has (dropF f s) t o := by
  unfold dropF
  by_cases h0 : standS f s = 0
  · rw [if_pos h0]; exact h
  · rw [if_neg h0]
    obtain ⟨hs, j, hj, e, g1, g2, g3⟩ := has_of_stand h0
    rw [e]
    obtain ⟨k, hk, ⟨h1, h2, h3⟩, h4⟩ := h
    have hkj : ¬ k = j := fun e => hne (n01_inj hs ht (by rw [← g2, ← h2, e]) (by rw [← g3, ← h3, e]))
    exact ⟨k, hk, ⟨by rw [dropped_16 hj hk, if_neg hkj]; exact h1, by rw [dropped_0]; exact h2, by rw [dropped_8]; exact h3⟩, by rw [dropped_16 hj hk, if_neg hkj]; exact h4⟩
theorem Good.dropped {f : Nat → Nat} (g : Good f) (s : ByteArray) : standS (dropF f s) s = 0 := by
  by_cases h0 : standS f s = 0
  · unfold dropF
    rw [if_pos h0]; exact h0
  · obtain ⟨hs, j, hj, e, g1, g2, g3⟩ := has_of_stand h0
    rcases standS_cases (dropF f s) s with h1 | ⟨_, k, hk, _, k1, k2, k3⟩
    · exact h1
    · unfold dropF at k1 k2 k3
      rw [if_neg h0, e] at k1 k2 k3
      rw [dropped_16 hj hk] at k1
      rw [dropped_0] at k2
      rw [dropped_8] at k3
      by_cases hkj : k = j
      · rw [if_pos hkj] at k1; omega
      · rw [if_neg hkj] at k1
        exact absurd (g.one k j hk hj k1 g1 (by rw [k2, g2]) (by rw [k3, g3])) hkj
/-- What stands behind a put stood there, or was put. -/
theorem Has.of_put {f : Nat → Nat} {t s : ByteArray} {o off : Nat} (h : Has (putF f s off) t o) : Has f t o ∨ n0 t = n0 s ∧ n1 t = n1 s ∧ o = off := by
  by_cases hp : putE f s off = 0
  · obtain ⟨j, i, hj, hi, hij, hbef, hlow, e⟩ := putF_slot hp
    rw [e] at h
    obtain ⟨k, hk, ⟨h1, h2, h3⟩, h4⟩ := h
    rw [setSl_16 hj hk] at h1 h4
    rw [setSl_0 hj hk] at h2
    rw [setSl_8 hj hk] at h3
    by_cases hkj : k = j
    · rw [if_pos hkj] at h2 h3 h4
      exact .inr ⟨h2.symm, h3.symm, h4.symm⟩
    · rw [if_neg hkj] at h1 h2 h3 h4
      exact .inl ⟨k, hk, ⟨h1, h2, h3⟩, h4⟩
  · unfold putF at h
    rw [if_neg hp] at h
    exact .inl h
theorem Has.of_drop {f : Nat → Nat} {t s : ByteArray} {o : Nat} (h : Has (dropF f s) t o) : Has f t o := by
  unfold dropF at h
  by_cases h0 : standS f s = 0
  · rw [if_pos h0] at h; exact h
  · rw [if_neg h0] at h
    obtain ⟨hs, j, hj, e, g1, g2, g3⟩ := has_of_stand h0
    rw [e] at h
    obtain ⟨k, hk, ⟨h1, h2, h3⟩, h4⟩ := h
    rw [dropped_16 hj hk] at h1 h4
    rw [dropped_0] at h2
    rw [dropped_8] at h3
    by_cases hkj : k = j
    · rw [if_pos hkj] at h1; omega
    · rw [if_neg hkj] at h1 h4
      exact ⟨k, hk, ⟨h1, h2, h3⟩, h4⟩

/-- How many slots are taken. -/
def cnt (f : Nat → Nat) : Nat := (List.range 16).countP fun j => decide (1 < f (sl j + 16))
theorem countP_one {p q : Nat → Bool} {j : Nat} (hp : p j = false) (hq : q j = true) (h : ∀ k, k ≠ j → q k = p k) : ∀ n, (List.range n).countP q = (List.range n).countP p + if j < n then 1 else 0
  | 0 => by simp
  | n + 1 => by
    rw [List.range_succ, List.countP_append, List.countP_append, countP_one hp hq h n]
    by_cases hn : n = j
    · subst hn
      simp [hp, hq]
    · have e := h n hn
      simp only [List.countP_cons, List.countP_nil, e]
      have e2 : (if j < n + 1 then 1 else 0) = if j < n then 1 else 0 := by split <;> split <;> omega
      rw [e2]
      omega
theorem cnt_le (f : Nat → Nat) : cnt f ≤ 16 := by
  have := List.countP_le_length (p := fun j => decide (1 < f (sl j + 16))) (l := List.range 16)
  simpa [cnt] using this
theorem cnt_full {f : Nat → Nat} : cnt f = 16 ↔ ∀ j, j < 16 → 1 < f (sl j + 16) := by
  have h := List.countP_eq_length (p := fun j => decide (1 < f (sl j + 16))) (l := List.range 16)
  rw [List.length_range] at h
  unfold cnt
  rw [h]
  constructor
  · intro k j hj; simpa using k j (List.mem_range.2 hj)
  · intro k j hj; simpa using k j (List.mem_range.1 hj)
theorem place_full (f : Nat → Nat) (s : ByteArray) : placeS f s = 0 ↔ cnt f = 16 := by
  rw [cnt_full, placeS, roomN_none]
  constructor
  · intro h j hj
    have := h ((j + 16 - hN s % 16) % 16) (by omega)
    unfold pay at this
    rw [← sl_mod, show (hN s + (j + 16 - hN s % 16) % 16) % 16 = j by omega] at this
    exact this
  · intro h i hi
    have := h ((hN s + i) % 16) (by omega)
    rw [sl_mod] at this
    exact this
theorem cnt_put {f : Nat → Nat} {s : ByteArray} {off : Nat} (h : putE f s off = 0) : cnt (putF f s off) = cnt f + 1 := by
  obtain ⟨h1, h2, -, h4⟩ := putE_zero h
  obtain ⟨j, i, hj, hi, hij, hbef, hlow, e⟩ := putF_slot h
  rw [e]
  unfold cnt
  have key : ∀ n, n ≤ 16 → (List.range n).countP (fun k => decide (1 < setSl f j (n0 s) (n1 s) off (sl k + 16))) = (List.range n).countP (fun k => if k = j then true else decide (1 < f (sl k + 16))) := fun n hn => by
    apply List.countP_congr
    intro k hk
    have := List.mem_range.1 hk
    rw [setSl_16 hj (by omega)]
    by_cases hkj : k = j
    · simp only [if_pos hkj]; simp; omega
    · simp only [if_neg hkj]
  rw [key 16 (Nat.le_refl _), countP_one (p := fun k => decide (1 < f (sl k + 16))) (j := j) (by simp; omega) (by simp) (fun k hk => by simp [hk]), if_pos hj]
theorem cnt_drop {f : Nat → Nat} {s : ByteArray} (h : standS f s ≠ 0) : cnt (dropF f s) + 1 = cnt f := by
  obtain ⟨hs, j, hj, e, g1, g2, g3⟩ := has_of_stand h
  unfold dropF
  rw [if_neg h, e]
  unfold cnt
  have key : (List.range 16).countP (fun k => decide (1 < upd f (sl j + 16) 1 (sl k + 16))) = (List.range 16).countP (fun k => if k = j then false else decide (1 < f (sl k + 16))) := by
    apply List.countP_congr
    intro k hk
    have := List.mem_range.1 hk
    rw [dropped_16 hj (by omega)]
    by_cases hkj : k = j
    · simp only [if_pos hkj]; simp
    · simp only [if_neg hkj]
  rw [key, countP_one (p := fun k => if k = j then false else decide (1 < f (sl k + 16))) (q := fun k => decide (1 < f (sl k + 16))) (j := j) (by simp) (by simpa using g1) (fun k hk => by simp [hk]), if_pos hj]

theorem ents_mem {f : Nat → Nat} {k : Nat} {x : ByteArray × Nat} : x ∈ entsN f k ↔ ∃ j, j < k ∧ 1 < f (sl j + 16) ∧ isName (f (sl j)) (f (sl j + 8)) ∧ x = (nameOf (f (sl j)) (f (sl j + 8)), f (sl j + 16)) := by
  unfold entsN
  rw [List.mem_filterMap]
  constructor
  · rintro ⟨j, hj, h⟩
    split at h
    · next hc => exact ⟨j, List.mem_range.1 hj, hc.1, hc.2, (Option.some.inj h).symm⟩
    · cases h
  · rintro ⟨j, hj, h1, h2, rfl⟩
    exact ⟨j, List.mem_range.2 hj, by rw [if_pos ⟨h1, h2⟩]⟩
theorem ents_succ (f : Nat → Nat) (k : Nat) : entsN f (k + 1) = entsN f k ++ (if 1 < f (sl k + 16) ∧ isName (f (sl k)) (f (sl k + 8)) then [(nameOf (f (sl k)) (f (sl k + 8)), f (sl k + 16))] else []) := by
  unfold entsN
  rw [List.range_succ, List.filterMap_append]
  congr 1
  by_cases h : 1 < f (sl k + 16) ∧ isName (f (sl k)) (f (sl k + 8))
  · simp only [List.filterMap_cons, if_pos h, List.filterMap_nil]
  · simp only [List.filterMap_cons, if_neg h, List.filterMap_nil]
theorem ents_len (f : Nat → Nat) (k : Nat) : (entsN f k).length ≤ k := by
  have := List.length_filterMap_le (fun i => if 1 < f (sl i + 16) ∧ isName (f (sl i)) (f (sl i + 8)) then some (nameOf (f (sl i)) (f (sl i + 8)), f (sl i + 16)) else none) (List.range k)
  rw [List.length_range] at this
  exact this
theorem Good.slot {f : Nat → Nat} (g : Good f) {j : Nat} (hj : j < 16) (h : 1 < f (sl j + 16)) : ∃ s, okN s = true ∧ hasAt f s j ∧ isName (f (sl j)) (f (sl j + 8)) ∧ nameOf (f (sl j)) (f (sl j + 8)) = s := by
  obtain ⟨s, hs, e0, e1, -⟩ := g.name j hj h
  refine ⟨s, hs, ⟨h, e0, e1⟩, ?_⟩
  rw [e0, e1]
  exact n01_name hs
theorem Good.ents_cnt {f : Nat → Nat} (g : Good f) : (entsN f 16).length = cnt f := by
  have key : ∀ k, k ≤ 16 → (entsN f k).length = (List.range k).countP fun j => decide (1 < f (sl j + 16)) := by
    intro k
    induction k with
    | zero => intro _; rfl
    | succ k ih =>
      intro hk
      rw [ents_succ, List.length_append, ih (by omega), List.range_succ, List.countP_append]
      congr 1
      by_cases h : 1 < f (sl k + 16)
      · obtain ⟨s, _, _, hn, _⟩ := g.slot (show k < 16 by omega) h
        rw [if_pos ⟨h, hn⟩]
        simp [h]
      · rw [if_neg (fun hc => h hc.1)]
        simp [h]
  exact key 16 (Nat.le_refl _)
theorem Good.ents {f : Nat → Nat} (g : Good f) {x : ByteArray × Nat} (hx : x ∈ entsN f 16) : okN x.1 = true ∧ Has f x.1 x.2 := by
  obtain ⟨j, hj, h1, h2, rfl⟩ := ents_mem.1 hx
  obtain ⟨s, hs, ha, _, he⟩ := g.slot hj h1
  simp only
  rw [he]
  exact ⟨hs, j, hj, ha, rfl⟩
theorem Good.ents_apart {f : Nat → Nat} (g : Good f) : (entsN f 16).Pairwise fun a b => a.1 ≠ b.1 := by
  have key : ∀ k, k ≤ 16 → (entsN f k).Pairwise fun a b => a.1 ≠ b.1 := by
    intro k
    induction k with
    | zero => intro _; exact List.Pairwise.nil
    | succ k ih =>
      intro hk
      rw [ents_succ, List.pairwise_append]
      refine ⟨ih (by omega), ?_, ?_⟩
      · split
        · exact List.pairwise_singleton _ _
        · exact List.Pairwise.nil
      · intro a ha b hb
        split at hb
        · next hc =>
          rw [List.mem_singleton] at hb
          subst hb
          obtain ⟨j, hj, h1, h2, rfl⟩ := ents_mem.1 ha
          simp only
          intro e
          obtain ⟨s, hs, ⟨_, a0, a1⟩, _, he⟩ := g.slot (show j < 16 by omega) h1
          obtain ⟨t, ht, ⟨_, b0, b1⟩, _, he'⟩ := g.slot (show k < 16 by omega) hc.1
          have est : s = t := by rw [← he, ← he', e]
          have := g.one j k (by omega) (by omega) h1 hc.1 (by rw [a0, b0, est]) (by rw [a1, b1, est])
          omega
        · cases hb
  exact key 16 (Nat.le_refl _)
theorem named_has {f : Nat → Nat} {s : ByteArray} {p : Nat} (h : Has f s p) : namedB f p = true := by
  obtain ⟨j, hj, ⟨h1, -, -⟩, h2⟩ := h
  unfold namedB
  rw [List.any_eq_true]
  exact ⟨j, List.mem_range.2 hj, by simp; omega⟩
theorem good_empty {f : Nat → Nat} (h : ∀ j, j < 16 → f (sl j + 16) = 0) : Good f := by
  refine ⟨fun j hj hp => ?_, fun i j hi hj hp => ?_⟩
  · rw [h j hj] at hp; omega
  · rw [h i hi] at hp; omega
theorem cnt_empty {f : Nat → Nat} (h : ∀ j, j < 16 → f (sl j + 16) = 0) : cnt f = 0 := by
  unfold cnt
  rw [List.countP_eq_zero]
  intro j hj
  rw [h j (List.mem_range.1 hj)]
  simp
theorem has_empty {f : Nat → Nat} (h : ∀ j, j < 16 → f (sl j + 16) = 0) (s : ByteArray) (o : Nat) : ¬ Has f s o := by
  rintro ⟨j, hj, ⟨h1, _⟩, _⟩
  rw [h j hj] at h1; omega
end Go.Proofs.Ck

namespace Go.Proofs.Ck
open Go Go.RowKit

/-- A deed: is a name dropped, which name, for which payload. -/
abbrev Dd := Bool × ByteArray × Nat
def deedF (f : Nat → Nat) (d : Dd) : Nat → Nat := if 100 < d.2.1.size then f else if d.1 = true then dropF f d.2.1 else putF f d.2.1 d.2.2
def deedsF (f : Nat → Nat) (l : List Dd) : Nat → Nat := l.foldl deedF f
def deedS (σ : St) (d : Dd) : St := if 100 < d.2.1.size then σ else if d.1 = true then dropS σ d.2.1 else putS σ d.2.1 d.2.2
def deedsS (σ : St) (l : List Dd) : St := l.foldl deedS σ
theorem deedsF_snoc (f : Nat → Nat) (l : List Dd) (d : Dd) : deedsF f (l ++ [d]) = deedF (deedsF f l) d := by simp [deedsF]
theorem deedsS_snoc (σ : St) (l : List Dd) (d : Dd) : deedsS σ (l ++ [d]) = deedS (deedsS σ l) d := by simp [deedsS]
/-- Deeds that leave one name alone. -/
def spareF (n : ByteArray) (f : Nat → Nat) (d : Dd) : Nat → Nat := if d.2.1 = n then f else deedF f d
def sparesF (n : ByteArray) (f : Nat → Nat) (l : List Dd) : Nat → Nat := l.foldl (spareF n) f
theorem sparesF_snoc (n : ByteArray) (f : Nat → Nat) (l : List Dd) (d : Dd) : sparesF n f (l ++ [d]) = spareF n (sparesF n f l) d := by simp [sparesF]

theorem putS_W (σ : St) (s : ByteArray) (off : Nat) : (putS σ s off).W = σ.W := by unfold putS; split <;> simp [store_W]
theorem dropS_W (σ : St) (s : ByteArray) : (dropS σ s).W = σ.W := by unfold dropS; split <;> simp [store_W]
theorem deedS_W (σ : St) (d : Dd) : (deedS σ d).W = σ.W := by
  unfold deedS
  split
  · rfl
  · split
    · exact dropS_W _ _
    · exact putS_W _ _ _
theorem deedsS_W (l : List Dd) (σ : St) : (deedsS σ l).W = σ.W := by
  unfold deedsS
  induction l generalizing σ with
  | nil => rfl
  | cons d l ih => rw [List.foldl_cons, ih, deedS_W]
theorem place_seg {f : Nat → Nat} {s : ByteArray} (h : placeS f s ≠ 0) : inSeg (placeS f s) ∧ inSeg (placeS f s + 8) ∧ inSeg (placeS f s + 16) := by
  rcases placeS_cases f s with h1 | ⟨j, hj, e, _⟩
  · exact absurd h1 h
  · rw [e]
    unfold inSeg sl
    omega
theorem stand_seg {f : Nat → Nat} {s : ByteArray} (h : standS f s ≠ 0) : inSeg (standS f s + 16) := by
  rcases standS_cases f s with h1 | ⟨_, j, hj, e, _⟩
  · exact absurd h1 h
  · rw [e]
    unfold inSeg sl
    omega
theorem put_load {σ : St} (hW : σ.W.length = 600) {a : Nat} (ha : inSeg a) (x : Nat) : (σ.store a x).load = upd σ.load a x := by
  funext o
  exact load_store ⟨ha.1, by rw [hW]; have := ha.2; omega⟩ x o
theorem putS_load {σ : St} (hW : σ.W.length = 600) (s : ByteArray) (off : Nat) : (putS σ s off).load = putF σ.load s off := by
  unfold putS putF
  by_cases h : putE σ.load s off = 0
  · rw [if_pos h, if_pos h]
    obtain ⟨-, -, h3, -⟩ := putE_zero h
    obtain ⟨i1, i2, i3⟩ := place_seg h3
    rw [put_load (by simp [store_W, hW]) i3, put_load (by simp [store_W, hW]) i2, put_load hW i1]
  · rw [if_neg h, if_neg h]
theorem dropS_load {σ : St} (hW : σ.W.length = 600) (s : ByteArray) : (dropS σ s).load = dropF σ.load s := by
  unfold dropS dropF
  by_cases h : standS σ.load s = 0
  · rw [if_pos h, if_pos h]
  · rw [if_neg h, if_neg h, put_load hW (stand_seg h)]
theorem deedS_load {σ : St} (hW : σ.W.length = 600) (d : Dd) : (deedS σ d).load = deedF σ.load d := by
  unfold deedS deedF
  split
  · rfl
  · split
    · exact dropS_load hW _
    · exact putS_load hW _ _
theorem deedsS_load (l : List Dd) {σ : St} (hW : σ.W.length = 600) : (deedsS σ l).load = deedsF σ.load l := by
  unfold deedsS deedsF
  induction l generalizing σ with
  | nil => rfl
  | cons d l ih => rw [List.foldl_cons, List.foldl_cons, ih (by rw [deedS_W]; exact hW), deedS_load hW]

section
variable {f : Nat → Nat}
theorem Good.deed (g : Good f) (d : Dd) : Good (deedF f d) := by
  unfold deedF
  split
  · exact g
  · split
    · exact g.drop _
    · exact g.put _ _
theorem Good.deeds : ∀ (l : List Dd) {f : Nat → Nat}, Good f → Good (deedsF f l)
  | [], _, g => g
  | d :: l, _, g => Good.deeds l (g.deed d)
theorem Good.spare (g : Good f) (n : ByteArray) (d : Dd) : Good (spareF n f d) := by
  unfold spareF
  split
  · exact g
  · exact g.deed d
theorem Good.spares (n : ByteArray) : ∀ (l : List Dd) {f : Nat → Nat}, Good f → Good (sparesF n f l)
  | [], _, g => g
  | d :: l, _, g => Good.spares n l (g.spare n d)
theorem Has.spare {n : ByteArray} {o : Nat} (h : Has f n o) (hn : okN n = true) (d : Dd) : Has (spareF n f d) n o := by
  unfold spareF
  split
  · exact h
  · next hne =>
    unfold deedF
    split
    · exact h
    · split
      · exact h.drop hn hne
      · exact h.put _ _
theorem Has.spares {n : ByteArray} {o : Nat} (hn : okN n = true) : ∀ (l : List Dd) {f : Nat → Nat}, Has f n o → Has (sparesF n f l) n o
  | [], _, h => h
  | d :: l, _, h => Has.spares hn l (h.spare hn d)
/-- What was put is found, until it is dropped. -/
theorem keeps (g : Good f) {n : ByteArray} {off : Nat} (h : putE f n off = 0) (k : List Dd) :
    standS (sparesF n (putF f n off) k) n ≠ 0 ∧ findV (sparesF n (putF f n off) k) n = off ∧ putE (sparesF n (putF f n off) k) n 9 = 7 ∧ standS (dropF (sparesF n (putF f n off) k) n) n = 0 := by
  obtain ⟨hn, -, -, -⟩ := putE_zero h
  have g2 := Good.spares n k (g.put n off)
  have h2 := Has.spares hn k (Has.put_self h)
  obtain ⟨h3, h4⟩ := g2.find hn h2
  refine ⟨h3, h4, ?_, g2.dropped n⟩
  have hr : roomE (sparesF n (putF f n off) k) n = 7 := by
    unfold roomE
    rw [if_pos hn, if_neg h3]
  unfold putE
  rw [if_neg (by omega), hr]
theorem put_ok {s : ByteArray} {off : Nat} (hs : okN s = true) (h0 : standS f s = 0) (hc : cnt f < 16) (ho : 2 ≤ off) : putE f s off = 0 := by
  have hp : placeS f s ≠ 0 := fun e => by
    have := (place_full f s).1 e; omega
  have hr : roomE f s = 0 := by
    unfold roomE
    rw [if_pos hs, if_pos h0, if_neg hp]
  unfold putE
  rw [if_pos hr, if_neg (by omega)]
theorem put_full {s : ByteArray} {off : Nat} (hs : okN s = true) (h0 : standS f s = 0) (hc : cnt f = 16) : putE f s off = 9 := by
  have hr : roomE f s = 9 := by
    unfold roomE
    rw [if_pos hs, if_pos h0, if_pos ((place_full f s).2 hc)]
  unfold putE
  rw [if_neg (by omega), hr]
theorem put_bad {s : ByteArray} {off : Nat} (hs : okN s = false) : putE f s off = 8 := by
  have hr : roomE f s = 8 := by
    unfold roomE
    rw [hs]; rfl
  unfold putE
  rw [if_neg (by omega), hr]
theorem putF_bad {s : ByteArray} {off : Nat} (h : putE f s off ≠ 0) : putF f s off = f := by
  unfold putF
  rw [if_neg h]
end

/-- A name of two bytes. -/
def nm2 (n i : Nat) : ByteArray := strOf [n, i]
theorem nm2_size (n i : Nat) : (nm2 n i).size = 2 := strOf_size _
theorem nm2_ok (n i : Nat) : okN (nm2 n i) = true := by rw [okN_iff, nm2_size]; omega
theorem nm2_inj {n i j : Nat} (hi : i < 256) (hj : j < 256) (h : nm2 n i = nm2 n j) : i = j := by
  have h1 := strOf_data [n, i]
  have h2 := strOf_data [n, j]
  rw [show strOf [n, i] = strOf [n, j] from h, h2] at h1
  simp only [List.map_cons, List.map_nil, List.cons.injEq, and_true] at h1
  have h3 := congrArg UInt8.toNat h1.2
  simp only [UInt8.toNat_ofNat'] at h3
  omega
/-- Names put one by one. -/
def fillN (n : Nat) : Nat → (Nat → Nat) → Nat → Nat
  | 0, f => f
  | i + 1, f => putF (fillN n i f) (nm2 n i) (100 + i)
/-- So many names stand, and no others. -/
structure Filled (n i : Nat) (f : Nat → Nat) : Prop where
  good : Good f
  cnt : cnt f = i
  has : ∀ k, k < i → Has f (nm2 n k) (100 + k)
  only : ∀ t o, okN t = true → Has f t o → ∃ k, k < i ∧ t = nm2 n k
theorem Filled.no {n i : Nat} {f : Nat → Nat} (h : Filled n i f) {t : ByteArray} (ht : okN t = true) (hne : ∀ k, k < i → t ≠ nm2 n k) : standS f t = 0 := by
  by_cases h0 : standS f t = 0
  · exact h0
  · obtain ⟨k, hk, e⟩ := h.only t _ ht (has_of_find h0)
    exact absurd e (hne k hk)
theorem Filled.next {n i : Nat} {f : Nat → Nat} (h : Filled n i f) (hi : i < 16) : putE f (nm2 n i) (100 + i) = 0 ∧ Filled n (i + 1) (putF f (nm2 n i) (100 + i)) := by
  have h0 := h.no (nm2_ok n i) (fun k hk e => by
    have := nm2_inj (by omega) (by omega) e; omega)
  have hp := put_ok (nm2_ok n i) h0 (by rw [h.cnt]; exact hi) (show 2 ≤ 100 + i by omega)
  refine ⟨hp, h.good.put _ _, by rw [cnt_put hp, h.cnt], fun k hk => ?_, fun t o ht hh => ?_⟩
  · by_cases e : k = i
    · subst e; exact Has.put_self hp
    · exact (h.has k (by omega)).put _ _
  · rcases hh.of_put with h1 | ⟨h1, h2, -⟩
    · obtain ⟨k, hk, e⟩ := h.only t o ht h1
      exact ⟨k, by omega, e⟩
    · exact ⟨i, by omega, n01_inj ht (nm2_ok n i) h1 h2⟩
theorem filled {f : Nat → Nat} (h0 : ∀ j, j < 16 → f (sl j + 16) = 0) (n : Nat) : ∀ i, i ≤ 16 → Filled n i (fillN n i f)
  | 0, _ => ⟨good_empty h0, cnt_empty h0, fun k hk => by omega, fun t o _ hh => absurd hh (has_empty h0 t o)⟩
  | i + 1, hi => ((filled h0 n i (by omega)).next (by omega)).2
/-- What a full directory tells. -/
theorem full {n : Nat} {f : Nat → Nat} (h : Filled n 16 f) {a : Nat} (ha : a < 16) {m : ByteArray} (hm : okN m = true) (h2 : m.size ≠ 2) :
    putE f m 5 = 9 ∧ standS f (nm2 n a) ≠ 0 ∧ putE (dropF f (nm2 n a)) m 5 = 0 ∧
    (∀ i, i < 16 → i ≠ a → standS (putF (dropF f (nm2 n a)) m 5) (nm2 n i) ≠ 0 ∧ findV (putF (dropF f (nm2 n a)) m 5) (nm2 n i) = 100 + i) ∧
    standS (putF (dropF f (nm2 n a)) m 5) (nm2 n a) = 0 ∧ (entsN (putF (dropF f (nm2 n a)) m 5) 16).length = 16 := by
  have hne : ∀ k, m ≠ nm2 n k := fun k e => h2 (by rw [e, nm2_size])
  have hs := h.no hm (fun k _ => hne k)
  have hst := (h.good.find (nm2_ok n a) (h.has a ha)).1
  have g1 := h.good.drop (nm2 n a)
  have hc := cnt_drop hst
  have hs1 : standS (dropF f (nm2 n a)) m = 0 := by
    by_cases h0 : standS (dropF f (nm2 n a)) m = 0
    · exact h0
    · obtain ⟨k, hk, e⟩ := h.only m _ hm (has_of_find h0).of_drop
      exact absurd e (hne k)
  have hp := put_ok hm hs1 (show cnt (dropF f (nm2 n a)) < 16 by have := h.cnt; omega) (show 2 ≤ 5 by omega)
  have g2 := g1.put m 5
  refine ⟨put_full hm hs h.cnt, hst, hp, fun i hi hia => ?_, ?_, ?_⟩
  · refine g2.find (nm2_ok n i) (((h.has i hi).drop (nm2_ok n i) (fun e => hia ?_)).put m 5)
    exact (nm2_inj (by omega) (by omega) e).symm
  · by_cases h0 : standS (putF (dropF f (nm2 n a)) m 5) (nm2 n a) = 0
    · exact h0
    · rcases (has_of_find h0).of_put with h1 | ⟨h1, h2, -⟩
      · exact absurd h1.choose_spec.2.1 (h.good.drop (nm2 n a) |>.no (nm2_ok n a) (h.good.dropped _) h1.choose_spec.1)
      · exact absurd (n01_inj (nm2_ok n a) hm h1 h2).symm (hne a)
  · rw [g2.ents_cnt, cnt_put hp]
    have := h.cnt
    omega
theorem fmt_slots (size : Nat) (hs : 3824 ≤ size) : ∀ j, j < 16 → fillF size [] (sl j + 16) = 0 := by
  intro j hj
  exact fmt_load size _ hs (.inr (by unfold sl; omega)) (by unfold sl; omega)
end Go.Proofs.Ck
