/- Logs: what is laid is read. -/
import Derived.Test.YtpakfelekphbmaaIntent6
namespace Go.Proofs.Ck
open Go Go.RowKit

theorem putF_append (f : Nat → Nat) (p q : List (Nat × Nat)) : putF f (p ++ q) = putF (putF f p) q := by simp [putF]
theorem updS_in {f : Nat → Nat} {a x : Nat} (h : inSeg a) : updS f a x = upd f a x := if_pos h
theorem logF_succ (f : Nat → Nat) {c : Nat} (l : List (Nat × Nat)) {k : Nat} (hc : c < 8) (hk : k < 24) :
    putF f (logN c l (k + 1)) = upd (upd (putF f (logN c l k)) (64 + 416 * c + (32 + 16 * k)) (l.getD k (0, 0)).1) (64 + 416 * c + (40 + 16 * k)) (l.getD k (0, 0)).2 := by
  rw [logN_succ, putF_append]
  show updS (updS _ _ _) _ _ = _
  rw [updS_in (by unfold inSeg; omega), updS_in (by unfold inSeg; omega)]
/-- Behind a log that is laid its words are there. -/
theorem logF_at (f : Nat → Nat) {c : Nat} (l : List (Nat × Nat)) (hc : c < 8) : ∀ (k : Nat), k ≤ 24 →
    (∀ i, i < k → putF f (logN c l k) (64 + 416 * c + (32 + 16 * i)) = (l.getD i (0, 0)).1 ∧ putF f (logN c l k) (64 + 416 * c + (40 + 16 * i)) = (l.getD i (0, 0)).2) ∧
    ∀ o, (o < 64 + 416 * c + 32 ∨ 64 + 416 * c + (32 + 16 * k) ≤ o) → putF f (logN c l k) o = f o
  | 0, _ => ⟨fun i hi => by omega, fun o _ => rfl⟩
  | k + 1, hk => by
    obtain ⟨h1, h2⟩ := logF_at f l hc k (by omega)
    rw [logF_succ f l hc (by omega)]
    refine ⟨fun i hi => ?_, fun o ho => ?_⟩
    · by_cases e : i = k
      · subst e
        exact ⟨by rw [upd_ne (by omega), upd_same], by rw [upd_same]⟩
      · obtain ⟨a, b⟩ := h1 i (by omega)
        exact ⟨by rw [upd_ne (by omega), upd_ne (by omega), a], by rw [upd_ne (by omega), upd_ne (by omega), b]⟩
    · rw [upd_ne (by omega), upd_ne (by omega)]
      exact h2 o (by omega)
theorem take_eq_map (l : List (Nat × Nat)) (m : Nat) (h : m ≤ l.length) : l.take m = (List.range m).map fun i => l.getD i (0, 0) := by
  apply List.ext_getElem?
  intro i
  rw [List.getElem?_take, List.getElem?_map]
  by_cases hi : i < m
  · rw [if_pos hi, List.getElem?_eq_getElem (by omega)]
    rw [List.getElem?_range hi, Option.map_some, List.getD_eq_getElem?_getD, List.getElem?_eq_getElem (show i < l.length by omega)]
    rfl
  · rw [if_neg hi, List.getElem?_eq_none (by simp; omega)]
    rfl
/-- What is read of a log that is laid, when so many of its words count. -/
theorem read_back {f : Nat → Nat} {c m : Nat} {l : List (Nat × Nat)} (hm : m ≤ l.length) (h : ∀ i, i < m → f (64 + 416 * c + (32 + 16 * i)) = (l.getD i (0, 0)).1 ∧ f (64 + 416 * c + (40 + 16 * i)) = (l.getD i (0, 0)).2) : readN f c m = l.take m := by
  rw [take_eq_map l m hm]
  unfold readN
  apply List.map_congr_left
  intro i hi
  obtain ⟨h1, h2⟩ := h i (List.mem_range.1 hi)
  rw [h1, h2]

section
variable {base : Nat} {M0 : Nat → Prop} {w0 w w' : World} {v : Value} {f g : Nat → Nat} {bx : List Bx} {K : World → (Nat → Prop) → Prop}
/-- The words that lay a log, as a law holds them. -/
theorem Law.words (h : Law base M0 w0 w v f bx K) {S : Nat → Prop} {A : Option Addr} {n c : Nat} {l : List (Nat × Nat)} (hc : c < 8) (hl : Puts S w A l) (hn : l.length ≤ 24) :
    Calls Try.prog 86 #[.int .i64 (c : Int), .slice A l.length n] w fun e w' => ∃ B m, e = .returned (.tuple #[.slice B (logN c l l.length).length m, .int .i64 0]) ∧ Law base M0 w0 w' v f bx fun w X => Puts (fun b => ¬ X b) w B (logN c l l.length) ∧ K w X := by
  have hr := h.rowOf (words_ok hc hl hn (n := n))
  rw [← logN_length c l l.length] at hr
  exact hr
/-- A log that is read. -/
theorem Law.readL (h : Law base M0 w0 w v f bx K) {c o n : Nat} {l : List (Nat × Nat)} (hc : c < 8) (ho : 64 + 416 * c + 16 = o) (hn : f o = n) (hb : n ≤ 24) (hl : readN f c n = l) :
    Calls Try.prog 93 #[v, .int .i64 (c : Int)] w fun e w' => ∃ A m, e = .returned (.slice A l.length m) ∧ Law base M0 w0 w' v f bx fun w X => Puts (fun b => ¬ X b) w A l ∧ K w X := by
  have hr := h.rowOf (read_ok h.any c hc n (by rw [atN_ok hc rfl (by omega), ho]; exact hn) hb)
  rw [hl] at hr
  have e : n = l.length := by rw [← hl, readN_length]
  rw [e] at hr
  exact hr
theorem Law.commitL (h : Law base M0 w0 w v f bx K) {c n o : Nat} (hc : c < 8) (hn : n ≤ 24) (ho : 64 + 416 * c + 16 = o) :
    Calls Try.prog 88 #[.int .i64 (c : Int), .int .i64 (n : Int)] w fun e w' => e = .returned (.tuple #[.agg #[.int .u64 (o : Int), .int .u64 (n : Int)], .int .i64 0]) ∧ Law base M0 w0 w' v f bx K := h.read (commit_ok w c n o hc hn ho)
theorem Law.clearL (h : Law base M0 w0 w v f bx K) {c o : Nat} (hc : c < 8) (ho : 64 + 416 * c + 16 = o) :
    Calls Try.prog 90 #[.int .i64 (c : Int)] w fun e w' => e = .returned (.tuple #[.agg #[.int .u64 (o : Int), .int .u64 0], .int .i64 0]) ∧ Law base M0 w0 w' v f bx K := h.read (clear17 (fun w => commit_ok w c 0 o hc (by omega) ho) w)
theorem Law.putL (h : Law base M0 w0 w v f bx K) {A : Option Addr} {c : Nat} {l : List (Nat × Nat)} (hr : ∀ w X, K w X → Puts (fun b => ¬ X b) w A l) (hm : l.length ≤ 9223372036854775807)
    (hx : ∀ p ∈ l, p.1 < 18446744073709551616 ∧ p.2 < 18446744073709551616) {g : Nat → Nat} (hg : putF f l = g) :
    Calls Try.prog 95 #[v, .slice A l.length c] w fun e w' => e = .returned (.tuple #[]) ∧ Law base M0 w0 w' v g bx K := by
  rw [← hg]; exact h.put hr hm hx
theorem Law.same (h : Law base M0 w0 w v f bx K) {A A' : Option Addr} {c c' : Nat} {l l' : List (Nat × Nat)} (hr : ∀ X, K w X → Puts (fun b => ¬ X b) w A l) (hr' : ∀ X, K w X → Puts (fun b => ¬ X b) w A' l') (hn : l.length ≤ 17592186044416) :
    Calls Try.prog 91 #[.slice A l.length c, .slice A' l'.length c'] w fun e w' => e = .returned (.bool (decide (l = l'))) ∧ Law base M0 w0 w' v f bx K := by
  obtain ⟨X, hX⟩ := h.know
  exact h.read (same_call (hr X hX) (hr' X hX) hn)
end
theorem logN_lt {c : Nat} {l : List (Nat × Nat)} (hc : c < 8) (hl : ∀ p ∈ l, p.1 < 18446744073709551616 ∧ p.2 < 18446744073709551616) {k : Nat} (hk : k ≤ 24) : ∀ p ∈ logN c l k, p.1 < 18446744073709551616 ∧ p.2 < 18446744073709551616 := by
  have hgd : ∀ i, (l.getD i (0, 0)).1 < 18446744073709551616 ∧ (l.getD i (0, 0)).2 < 18446744073709551616 := fun i => by
    rw [List.getD_eq_getElem?_getD]
    cases h : l[i]? with
    | none => exact ⟨by simp, by simp⟩
    | some x => exact hl x (List.mem_of_getElem? h)
  intro p hp
  obtain ⟨i, hi, hp⟩ := List.mem_flatMap.1 hp
  have := List.mem_range.1 hi
  have hd := hgd i
  simp only [logP, List.mem_cons, List.not_mem_nil, or_false] at hp
  rcases hp with rfl | rfl
  · exact ⟨by omega, hd.1⟩
  · exact ⟨by omega, hd.2⟩
end Go.Proofs.Ck
