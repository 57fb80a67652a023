/- What is loaded behind a store; what a formatted segment holds. -/
import Derived.Test.YtpakfelekphbmaaMay
namespace Go.Proofs.Ck
open Go Go.RowKit

theorem plook_append (p q : List (Nat × Nat)) (off : Nat) : plook (p ++ q) off = (plook p off).or (plook q off) := by
  induction p with
  | nil => simp [plook]
  | cons r p ih =>
    rw [List.cons_append, plook_cons, plook_cons, ih]
    split <;> simp
theorem plook_map (p : List (Nat × Nat)) (off v o : Nat) : plook (p.map (fun q => if q.1 = off then (off, v) else q)) o = if o = off then (if (plook p off).isSome then some v else none) else plook p o := by
  induction p with
  | nil => simp [plook]
  | cons q p ih =>
    rw [List.map_cons, plook_cons, plook_cons, plook_cons, ih]
    by_cases h1 : q.1 = off
    · by_cases h2 : o = off
      · subst h2; simp [h1]
      · have : off ≠ o := fun e => h2 e.symm
        have h3 : q.1 ≠ o := fun e => h2 (by omega)
        simp [h1, h2, this]
    · by_cases h2 : o = off
      · subst h2
        simp [h1]
      · simp [h1, h2]
theorem plook_pput (p : List (Nat × Nat)) (off v o : Nat) : plook (pput p off v) o = if o = off then some v else plook p o := by
  unfold pput
  by_cases hs : (plook p off).isSome
  · rw [if_pos hs, plook_map, hs]
    simp
  · rw [if_neg hs, plook_append]
    have hn : plook p off = none := by simpa using hs
    by_cases h : o = off
    · subst h
      rw [hn, if_pos rfl, plook_cons]
      simp
    · have : off ≠ o := fun e => h e.symm
      rw [if_neg h, plook_cons, if_neg this]
      simp [plook]
/-- A word may be stored there. -/
def St.has (σ : St) (off : Nat) : Prop := off % 8 = 0 ∧ off / 8 < σ.W.length
theorem load_store {σ : St} {off : Nat} (h : σ.has off) (v o : Nat) : (σ.store off v).load o = if o = off then v else σ.load o := by
  have e : σ.store off v = ⟨σ.W, pput σ.p off v⟩ := by unfold St.store; exact if_pos h
  rw [e]
  unfold St.load
  rw [plook_pput]
  by_cases ho : o = off
  · rw [if_pos ho, if_pos ho]; rfl
  · rw [if_neg ho, if_neg ho]; rfl
theorem has_store {σ : St} {off v o : Nat} : (σ.store off v).has o ↔ σ.has o := by unfold St.has; rw [store_W]

theorem fmt_zero (size i : Nat) (h0 : i ≠ 0) (h1 : i ≠ 1) (h2 : i ≠ 2) (h4 : i ≠ 4) (h5 : i ≠ 5) (h6 : i < 472) (hs : 3824 ≤ size) : (fmtW 600 size).getD i 0 = 0 := by
  unfold fmtW
  rw [List.getD_eq_getElem?_getD]
  rw [List.getElem?_set_ne (by omega), List.getElem?_set_ne (by omega), List.getElem?_set_ne (by omega), List.getElem?_set_ne (by omega), List.getElem?_set_ne (by omega), List.getElem?_set_ne (by omega), List.getElem?_set_ne (by omega), List.getElem?_replicate]
  split <;> rfl
/-- A formatted segment's words that are not its head's nor its heap's are 0. -/
theorem fmt_load (size off : Nat) (hs : 3824 ≤ size) (h : off = 24 ∨ 48 ≤ off) (h6 : off < 3776) : (⟨fmtW 600 size, []⟩ : St).load off = 0 := by
  unfold St.load St.old
  show (none : Option Nat).getD _ = 0
  rw [Option.getD_none]
  split
  · exact fmt_zero size (off / 8) (by omega) (by omega) (by omega) (by omega) (by omega) (by omega) hs
  · rfl
theorem fmt_has (size off : Nat) (h : off % 8 = 0) (h2 : off < 4800) (p : List (Nat × Nat)) : (⟨fmtW 600 size, p⟩ : St).has off := ⟨h, by rw [fmtW_length]; omega⟩
end Go.Proofs.Ck
