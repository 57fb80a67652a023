/- A part of the proofs of this seat's laws. -/
import Derived.Test.YtpakfelekphbmaaAwake2
import Derived.Test.YtpakfelekphbmaaRegion
namespace Go.Proofs.Ck
open Go Go.RowKit

/-- A segment's words, when one is stored; what the store tells. -/
def stored (W : List Nat) (off x : Nat) : List Nat := if off % 8 = 0 ∧ off / 8 < W.length then W.set (off / 8) x else W
def codeOf (W : List Nat) (off : Nat) : Nat := if off % 8 = 0 ∧ off / 8 < W.length then 0 else 1
theorem stored_length (W : List Nat) (off x : Nat) : (stored W off x).length = W.length := by unfold stored; split <;> simp
theorem codeOf_le (W : List Nat) (off : Nat) : codeOf W off ≤ 1 := by unfold codeOf; split <;> omega

/-- A segment, its bytes at block x; or nobody's. -/
def SegAt (w : World) (v : Value) (x : Option Nat) (W : List Nat) : Prop :=
  (v = .pointer none ∧ W = [] ∧ x = none) ∨ ∃ sb bb cap cs, v = .pointer (some ⟨sb, 0, none⟩) ∧ x = some bb ∧ SegRep w sb bb cap cs W
theorem SegAt.like {w : World} {v : Value} {x : Option Nat} {W : List Nat} (h : SegAt w v x W) : SegLike w v W := by
  rcases h with ⟨h1, h2, _⟩ | ⟨sb, bb, cap, cs, rfl, _, h⟩
  · exact .inl ⟨h1, h2⟩
  · exact .inr ⟨sb, bb, cap, cs, rfl, h⟩
theorem SegAt.lt {w : World} {v : Value} {x : Option Nat} {W : List Nat} (h : SegAt w v x W) : ∀ b, x = some b → b < w.heap.size := by
  rcases h with ⟨h1, h2, rfl⟩ | ⟨sb, bb, cap, cs, rfl, rfl, h⟩
  · intro b hb; cases hb
  · intro b hb; cases hb; exact h.lt'
theorem SegAt.grow {w w' : World} {v : Value} {x : Option Nat} {W : List Nat} (h : SegAt w v x W) (hg : Grow w w') : SegAt w' v x W := by
  rcases h with h | ⟨sb, bb, cap, cs, rfl, rfl, h⟩
  · exact .inl h
  · exact .inr ⟨sb, bb, cap, cs, rfl, rfl, h.grow hg⟩

theorem store_any {w : World} {v : Value} {y : Option Nat} {W : List Nat} (h : SegAt w v y W) (off x : Nat) (ho : off < 18446744073709551616) (hx : x < 18446744073709551616) :
    Calls Try.prog 56 #[v, .int .u64 (off : Int), .int .u64 (x : Int)] w fun e w' => e = .returned (.int .i64 (codeOf W off : Int)) ∧ SegAt w' v y (stored W off x) ∧ Only (fun b => y = some b) w w' := by
  rcases h with ⟨rfl, rfl, rfl⟩ | ⟨sb, bb, cap, cs, rfl, rfl, h⟩
  · exact (store_nil w off x ho).mono fun e w' ⟨h1, h2⟩ => ⟨by rw [h1, codeOf, if_neg (by simp)]; rfl, .inl ⟨rfl, by simp [stored], rfl⟩, .of_below h2⟩
  · by_cases hc : off % 8 = 0 ∧ off / 8 < W.length
    · refine (store_ok h off x hc.1 hc.2 hx).mono fun e w' ⟨h1, ⟨cs', h2⟩, h3⟩ => ⟨by rw [h1, codeOf, if_pos hc]; rfl, .inr ⟨sb, bb, cap, cs', rfl, rfl, by rw [stored, if_pos hc]; exact h2⟩, h3.mono fun b _ hb => by rw [hb]⟩
    · refine (store_bad h off x ho hc).mono fun e w' ⟨h1, h2⟩ => ⟨by rw [h1, codeOf, if_neg hc]; rfl, .inr ⟨sb, bb, cap, cs, rfl, rfl, by rw [stored, if_neg hc]; exact h.grow h2⟩, .of_below h2⟩

theorem rstore_any {S : Nat → Prop} {A : Option Addr} {c L : Nat} {W : List Nat} {w : World} (h : Row S w A L 1 (u64s W)) (hL : W.length = L) (off x : Nat) (ho : off < 18446744073709551616) (hn : L ≤ 17592186044416) :
    Calls Try.prog 141 #[.slice A L c, .int .u64 (off : Int), .int .u64 (x : Int)] w fun e w' =>
      (∃ A' c', e = .returned (.tuple #[.slice A' L c', .int .i64 (codeOf W off : Int)]) ∧ Row (fun b => S b ∨ w.heap.size ≤ b) w' A' L 1 (u64s (stored W off x))) ∧ Grow w w' := by
  subst hL
  by_cases hc : off % 8 = 0 ∧ off / 8 < W.length
  · refine (rstore_ok h off x hc.1 hc.2 hn).mono fun e w' ⟨⟨g, c', h1, h2⟩, h3⟩ => ⟨⟨some ⟨g, 0, none⟩, c', by rw [h1, codeOf, if_pos hc]; rfl, ?_⟩, h3⟩
    rw [stored, if_pos hc]
    have h4 := h2.mono fun b _ hb => Or.inr (a := S b) hb
    rw [List.length_set] at h4
    exact h4
  · refine (rstore_bad A W.length c off x w ho hc (by omega)).mono fun e w' ⟨h1, h2⟩ => ⟨⟨A, c, by rw [h1, codeOf, if_neg hc]; rfl, ?_⟩, h2 ▸ Below.refl _ _⟩
    subst h2
    rw [stored, if_neg hc]
    exact h.mono fun b _ hb => .inl hb

/-- Pairs of words. -/
def puts (l : List (Nat × Nat)) : List Value := l.flatMap fun p => [Value.int .u64 (p.1 : Int), Value.int .u64 (p.2 : Int)]
theorem puts_length (l : List (Nat × Nat)) : (puts l).length = l.length * 2 := by
  induction l with
  | nil => rfl
  | cons p l ih => simp [puts] at ih ⊢; omega
theorem puts_get {l : List (Nat × Nat)} {i : Nat} (h : i < l.length) : (puts l)[i * 2]? = some (.int .u64 (((l.getD i (0, 0)).1 : Nat) : Int)) ∧ (puts l)[i * 2 + 1]? = some (.int .u64 (((l.getD i (0, 0)).2 : Nat) : Int)) := by
  induction l generalizing i with
  | nil => simp at h
  | cons p l ih =>
    cases i with
    | zero => simp [puts]
    | succ i =>
      have := ih (i := i) (by simpa using h)
      have e : puts (p :: l) = .int .u64 (p.1 : Int) :: .int .u64 (p.2 : Int) :: puts l := by simp [puts]
      rw [e, show (i + 1) * 2 = i * 2 + 1 + 1 by omega]
      simpa using this
theorem puts_one (l : List (Nat × Nat)) : ∀ u ∈ puts l, u.oneCell' = true := by
  intro u hu
  obtain ⟨p, _, hp⟩ := List.mem_flatMap.1 hu
  simp at hp
  rcases hp with rfl | rfl <;> rfl
abbrev Puts (S : Nat → Prop) (w : World) (A : Option Addr) (l : List (Nat × Nat)) : Prop := Row S w A l.length 2 (puts l)

/-- The words of a segment of so many bytes, in which words were stored. -/
def may (size : Nat) : Prop := 0 < size ∧ size % 8 = 0 ∧ size ≤ 1048576
instance (size : Nat) : Decidable (may size) := inferInstanceAs (Decidable (_ ∧ _ ∧ _))
def fresh (size : Nat) : List Nat := if may size then List.replicate (size / 8) 0 else []
def fillW (size : Nat) (l : List (Nat × Nat)) : List Nat := l.foldl (fun W p => stored W p.1 p.2) (fresh size)
theorem fillW_length (size : Nat) (l : List (Nat × Nat)) : (fillW size l).length = (fresh size).length := by
  unfold fillW
  generalize fresh size = W
  induction l generalizing W with
  | nil => rfl
  | cons p l ih => rw [List.foldl_cons, ih, stored_length]
theorem fillW_snoc (size : Nat) (l : List (Nat × Nat)) (p : Nat × Nat) : fillW size (l ++ [p]) = stored (fillW size l) p.1 p.2 := by simp [fillW]
theorem take_succ_getD' {l : List (Nat × Nat)} {k : Nat} (h : k < l.length) : l.take (k + 1) = l.take k ++ [l.getD k (0, 0)] := by
  rw [List.take_succ_eq_append_getElem h, List.getD_eq_getElem?_getD, List.getElem?_eq_getElem h]
  rfl
end Go.Proofs.Ck
