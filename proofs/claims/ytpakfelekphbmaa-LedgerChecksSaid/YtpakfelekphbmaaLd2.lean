/- The ledger: what is told of a list, and what comes and goes, plainly. -/
import Derived.Test.YtpakfelekphbmaaLd0
namespace Go.Proofs.Ck
open Go Go.RowKit

/-- Two words of a block, as they should be. -/
def wordsB (f : Nat → Nat) (l : List Nat) (i : Nat) : Bool :=
  decide (f ((l.getD i 0 + 16) % 18446744073709551616) = l.getD (i + 1) 0) && decide (f ((l.getD i 0 + 24) % 18446744073709551616) = if i = 0 then 0 else l.getD (i - 1) 0)
/-- Is a client's list just these? -/
def chkB (f : Nat → Nat) (c : Int) (l : List Nat) : Bool := decide (getF f c 8 = l.getD 0 0) && (List.range l.length).all (wordsB f l)
theorem seg_get {f : Nat → Nat} {l : List Nat} : ∀ {p e : Nat}, seg f p l e → ∀ i, i < l.length → f (l.getD i 0 + 16) = (if i + 1 < l.length then l.getD (i + 1) 0 else e) ∧ f (l.getD i 0 + 24) = if i = 0 then p else l.getD (i - 1) 0 := by
  induction l with
  | nil => intro p e _ i hi; simp at hi
  | cons a r ih =>
    rintro p e ⟨h1, h2, h3⟩ i hi
    cases i with
    | zero =>
      simp only [List.getD_cons_zero, List.getD_cons_succ]
      refine ⟨?_, by rw [h2]; simp⟩
      rw [h1]
      cases r with
      | nil => simp
      | cons b r => simp
    | succ i =>
      have hi' : i < r.length := by simpa using hi
      obtain ⟨k1, k2⟩ := ih h3 i hi'
      simp only [List.getD_cons_succ]
      refine ⟨?_, ?_⟩
      · rw [k1]
        simp only [List.length_cons]
        by_cases h : i + 1 < r.length
        · rw [if_pos h, if_pos (by omega)]
        · rw [if_neg h, if_neg (by omega)]
      · rw [k2]
        cases i with
        | zero => simp
        | succ i => simp
theorem chk_told {f : Nat → Nat} {c : Nat} {l : List Nat} (hc : c < 8) (h : Chk f c l) (hl : ∀ a ∈ l, a < 4800) : chkB f (c : Int) l = true := by
  obtain ⟨h1, h2⟩ := h
  unfold chkB
  rw [Bool.and_eq_true, decide_eq_true_eq, List.all_eq_true]
  refine ⟨?_, fun i hi => ?_⟩
  · unfold getF
    rw [if_pos (by omega), show ((c : Int)).toNat = c from rfl]
    rw [show 64 + 416 * c + 8 = hdO c from rfl, h1]
    cases l <;> rfl
  · have hi := List.mem_range.1 hi
    obtain ⟨k1, k2⟩ := seg_get h2 i hi
    have hm : l.getD i 0 ∈ l := by rw [List.getD_eq_getElem?_getD, List.getElem?_eq_getElem hi]; exact List.getElem_mem hi
    have hlt := hl _ hm
    unfold wordsB
    rw [Bool.and_eq_true, decide_eq_true_eq, decide_eq_true_eq, Nat.mod_eq_of_lt (by omega), Nat.mod_eq_of_lt (by omega)]
    refine ⟨?_, k2⟩
    rw [k1]
    by_cases h : i + 1 < l.length
    · rw [if_pos h]
    · rw [if_neg h, List.getD_eq_getElem?_getD, List.getElem?_eq_none (by omega)]; rfl

/-- One list otherwise. -/
def setL (L : Nat → List Nat) (c : Nat) (l : List Nat) : Nat → List Nat := fun d => if d = c then l else L d
/-- Is a block in some list? -/
def inL (L : Nat → List Nat) (off : Nat) : Bool := (List.range 8).any fun k => decide (off ∈ L k)
theorem inL_no {L : Nat → List Nat} {off : Nat} (h : inL L off = false) : ∀ d, d < 8 → off ∉ L d := by
  intro d hd hm
  unfold inL at h
  rw [List.any_eq_false] at h
  exact h d (List.mem_range.2 hd) (by simpa using hm)
def stepF (f : Nat → Nat) (L : Nat → List Nat) (c off : Nat) : Nat → Nat := if off ∈ L c then unlinkF f c off else if inL L off = false then linkF f c off else f
def stepL (L : Nat → List Nat) (c off : Nat) : Nat → List Nat := if off ∈ L c then setL L c ((L c).filter (· != off)) else if inL L off = false then setL L c (off :: L c) else L
/-- Steps: whose list, and which block. -/
def stepsF (all : List Nat) : (Nat → Nat) → (Nat → List Nat) → List (Nat × Nat) → Nat → Nat
  | f, _, [] => f
  | f, L, q :: r => stepsF all (stepF f L (q.1 % 8) (all.getD (q.2 % all.length) 0)) (stepL L (q.1 % 8) (all.getD (q.2 % all.length) 0)) r
def stepsL (all : List Nat) : (Nat → List Nat) → List (Nat × Nat) → Nat → List Nat
  | L, [] => L
  | L, q :: r => stepsL all (stepL L (q.1 % 8) (all.getD (q.2 % all.length) 0)) r
theorem stepsF_snoc (all : List Nat) (q : Nat × Nat) : ∀ (l : List (Nat × Nat)) (f : Nat → Nat) (L : Nat → List Nat),
    stepsF all f L (l ++ [q]) = stepF (stepsF all f L l) (stepsL all L l) (q.1 % 8) (all.getD (q.2 % all.length) 0)
  | [], f, L => rfl
  | x :: r, f, L => by
    rw [List.cons_append]
    simp only [stepsF, stepsL]
    exact stepsF_snoc all q r _ _
theorem stepsL_snoc (all : List Nat) (q : Nat × Nat) : ∀ (l : List (Nat × Nat)) (L : Nat → List Nat),
    stepsL all L (l ++ [q]) = stepL (stepsL all L l) (q.1 % 8) (all.getD (q.2 % all.length) 0)
  | [], L => rfl
  | x :: r, L => by
    rw [List.cons_append]
    simp only [stepsL]
    exact stepsL_snoc all q r _
section
variable {f : Nat → Nat} {all : List Nat} {L : Nat → List Nat}
theorem Lists.step (h : Lists f all L) (hR : Room all) {c off : Nat} (hc : c < 8) (hoff : off ∈ all) :
    Lists (stepF f L c off) all (stepL L c off) ∧ ∀ a ∈ all, stepF f L c off a = f a := by
  unfold stepF stepL
  by_cases h1 : off ∈ L c
  · rw [if_pos h1, if_pos h1]
    exact h.unlink hR hc h1
  · rw [if_neg h1, if_neg h1]
    by_cases h2 : inL L off = false
    · rw [if_pos h2, if_pos h2]
      exact h.link hR hc hoff (inL_no h2)
    · rw [if_neg h2, if_neg h2]
      exact ⟨h, fun _ _ => rfl⟩
theorem Lists.steps (hR : Room all) (h0 : all ≠ []) : ∀ (l : List (Nat × Nat)) {f : Nat → Nat} {L : Nat → List Nat}, Lists f all L → Lists (stepsF all f L l) all (stepsL all L l) ∧ ∀ a ∈ all, stepsF all f L l a = f a
  | [], f, L, h => ⟨h, fun _ _ => rfl⟩
  | q :: r, f, L, h => by
    have hlen : 0 < all.length := List.length_pos_iff.2 h0
    have hm : all.getD (q.2 % all.length) 0 ∈ all := by
      rw [List.getD_eq_getElem?_getD, List.getElem?_eq_getElem (Nat.mod_lt _ hlen)]
      exact List.getElem_mem _
    obtain ⟨h1, h2⟩ := h.step hR (c := q.1 % 8) (Nat.mod_lt _ (by omega)) hm
    obtain ⟨h3, h4⟩ := Lists.steps hR h0 r h1
    exact ⟨h3, fun a ha => by simp only [stepsF]; rw [h4 a ha, h2 a ha]⟩
theorem Lists.told (h : Lists f all L) (hR : Room all) {c : Nat} (hc : c < 8) : chkB f (c : Int) (L c) = true :=
  chk_told hc (h.chk c hc) fun a ha => by have := hR.at_ a (h.sub c hc a ha); omega
end
/-- At first all lists are empty. -/
theorem lists_empty {f : Nat → Nat} {all : List Nat} (h : ∀ c, c < 8 → f (hdO c) = 0) : Lists f all fun _ => [] :=
  ⟨fun c hc => ⟨h c hc, trivial⟩, fun c hc a ha => (by cases ha), fun c hc => List.nodup_nil, fun c d hc hd hcd a ha => (by cases ha)⟩
end Go.Proofs.Ck
