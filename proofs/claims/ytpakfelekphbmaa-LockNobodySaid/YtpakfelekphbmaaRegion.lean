/- A region whose order is open, with one operation in its midst that may turn the world: what stands ahead of it, and what stands behind it, only reads. No program is named here. -/
import Derived.Test.YtpakfelekphbmaaBase
import Derived.StillTailTactics
namespace Go.Proofs.Ck
open Go Go.RowKit

section
variable {P : Program} {ops : Array Oper} {md : Region.Mode} {w : World}

/-- Each operation behind n waits for one that is n, or stands behind n, and ahead of it. -/
def behindB (md : Region.Mode) (ops : Array Oper) (n : Nat) : Bool :=
  (List.range ops.size).all fun t => decide (t ≤ n) || (List.range t).any fun j => decide (n ≤ j) && Region.waitsFor md ops t j

theorem behind_waits {n : Nat} {listed : Array Bool} (hs : Region.sinkB md ops n = true) (hc : behindB md ops n = true) (hn : n < ops.size) (inv : HeadInv md ops n listed) :
    ∀ (d i : Nat), n - i = d → i < n → listed.getD i true = false → ∀ t, n ≤ t → t ∉ Region.ready md ops listed := by
  intro d
  induction d using Nat.strongRecOn with
  | _ d ih =>
    intro i hd hi hun t ht hr
    obtain ⟨_, ot, hot, hall⟩ := mem_ready.1 hr
    have htlt : t < ops.size := (Array.getElem?_eq_some_iff.1 hot).1
    by_cases htn : t = n
    · subst htn
      have h1 := List.all_eq_true.1 hs i (List.mem_range.2 hi)
      obtain ⟨j, hj, hj2⟩ := List.any_eq_true.1 h1
      simp only [Bool.and_eq_true, decide_eq_true_eq] at hj2
      obtain ⟨oj, hoj, e, he, hb, hon⟩ := Region.waitsFor_spec hj2.2
      have hjle : j ≤ t := by have := List.mem_range.1 hj; omega
      by_cases hjt : j = t
      · subst hjt
        have : oj = ot := Option.some.inj (hoj.symm.trans hot)
        subst this
        have h2 := hall e he hb
        rw [hon, getD_both hun] at h2
        cases h2
      · cases hl : listed.getD j false with
        | true =>
          have h2 := inv.closed j oj hoj hl e he hb
          rw [hon, getD_both hun] at h2
          cases h2
        | false =>
          have hjs : j < listed.size := by rw [inv.size]; omega
          exact ih (t - j) (by omega) j rfl (by omega) (getD_in hjs hl) t (Nat.le_refl _) hr
    · have h1 := List.all_eq_true.1 hc t (List.mem_range.2 htlt)
      simp only [Bool.or_eq_true, decide_eq_true_eq] at h1
      rcases h1 with h1 | h1
      · omega
      · obtain ⟨j, hj, hj2⟩ := List.any_eq_true.1 h1
        simp only [Bool.and_eq_true, decide_eq_true_eq] at hj2
        have hjt : j < t := List.mem_range.1 hj
        obtain ⟨o', ho', e, he, hb, hon⟩ := Region.waitsFor_spec hj2.2
        have : o' = ot := Option.some.inj (ho'.symm.trans hot)
        subst this
        have h2 := hall e he hb
        rw [hon, getD_both (inv.tail j hj2.1 (by omega))] at h2
        cases h2

theorem wpAnyL_first' {n i : Nat} {oi : Oper} {v : Value} {L : Array Bool → Act → Prop} (hi : ops[i]? = some oi) (hsel : ∀ (j : Nat) (o : Oper) cs b, ops[j]? = some o → o.op ≠ .select cs b)
    (hs : Region.sinkB md ops n = true) (hc : behindB md ops n = true) (hn : n < ops.size) (hin : i < n)
    (hdone : ∀ listed a, L listed a → ∀ j ∈ Region.ready md ops listed, n ≤ j) :
    ∀ (f : Nat) (listed : Array Bool) (a : Act), HeadInv md ops n listed →
      (∀ j oj, ops[j]? = some oj → j ≠ i → listed.getD j true = false → (∀ e ∈ oj.after, Region.binds md e = true → e.on ≠ i) → oi.apart ops oj = true) →
      i ∈ Region.ready md ops listed → YieldsAt P ops w oi v a →
      wpAnyL P md ops w n L f (listed.setIfInBounds i true) (a.put oi.dst v) → wpAnyL P md ops w n L (f + 1) listed a := by
  intro f
  induction f with
  | zero =>
    intro listed a inv _ hr hy H
    have hun := (mem_ready.1 hr).1
    refine ⟨fun h => (by rw [h] at hr; cases hr), fun j hj => ?_⟩
    have hjn : j < n := by
      rcases Nat.lt_or_ge j n with h | h
      · exact h
      · exact absurd hj (behind_waits hs hc hn inv _ i rfl hin hun j h)
    refine ⟨hjn, ?_⟩
    by_cases hji : j = i
    · subst hji; exact hy.stOp hi H
    · have := hdone _ _ H j (ready_mono hj hji)
      omega
  | succ f ih =>
    intro listed a inv hfree hr hy H
    have hun := (mem_ready.1 hr).1
    refine ⟨fun h => (by rw [h] at hr; cases hr), fun j hj => ?_⟩
    have hjn : j < n := by
      rcases Nat.lt_or_ge j n with h | h
      · exact h
      · exact absurd hj (behind_waits hs hc hn inv _ i rfl hin hun j h)
    refine ⟨hjn, ?_⟩
    by_cases hji : j = i
    · subst hji; exact hy.stOp hi H
    · have h1 := (H.2 j (ready_mono hj hji)).2
      obtain ⟨hjun, oj, hoj, hall⟩ := mem_ready.1 hj
      have hnot : ∀ e ∈ oj.after, Region.binds md e = true → e.on ≠ i := fun e he hb heq => by
        have h1 := hall e he hb
        rw [heq, getD_both hun] at h1
        cases h1
      have h2 := stOp_put hoj (hfree j oj hoj hji hjun hnot) (fun cs b => hsel i oi cs b hi) (fun cs b => hsel j oj cs b hoj) hy h1
      have hfree' : ∀ k ok, ops[k]? = some ok → k ≠ i → (listed.setIfInBounds j true).getD k true = false →
          (∀ e ∈ ok.after, Region.binds md e = true → e.on ≠ i) → oi.apart ops ok = true := fun k ok hk hki hun hno => by
        refine hfree k ok hk hki ?_ hno
        by_cases hjk : j = k
        · subst hjk; exact hjun
        · rw [getD_set_ne true hjk] at hun; exact hun
      refine stOp_mono (fun a' h3 => ih (listed.setIfInBounds j true) a' (inv.set hj hjn) hfree' (ready_mono hr (Ne.symm hji)) h3.1 ?_) h2
      rw [Array.setIfInBounds_comm _ _ hji]
      exact h3.2

/-- n alone may come, and behind it the rest, in the order of the text or another one. -/
def midB (md : Region.Mode) (ops : Array Oper) (n : Nat) (listed : Array Bool) : Bool :=
  decide (Region.ready md ops listed = [n]) && Region.lexFrom md ops (ops.size - (n + 1)) (n + 1) (listed.setIfInBounds n true)

def headB (md : Region.Mode) (ops : Array Oper) (n : Nat) : Nat → Nat → Array Bool → Bool
  | 0, _, listed => midB md ops n listed
  | f + 1, k, listed => (Region.ready md ops listed).contains k && Region.free md ops listed k && headB md ops n f (k + 1) (listed.setIfInBounds k true)

def midRegionB (md : Region.Mode) (ops : Array Oper) (n : Nat) : Bool :=
  Region.noSelect ops && decide (n < ops.size) && Region.sinkB md ops n && behindB md ops n && headB md ops n n 0 (Array.replicate ops.size false)

theorem wpAnyL_mid {n : Nat} {Lq : Act → Prop} (hsel : Region.noSelect ops = true) (hs : Region.sinkB md ops n = true) (hc : behindB md ops n = true) (hn : n < ops.size) :
    ∀ (l : List Oper) (k : Nat) (listed : Array Bool) (a : Act), (∀ j, j < l.length → l[j]? = ops[k + j]?) → k + l.length = n → HeadInv md ops n listed →
    headB md ops n l.length k listed = true → wpStill P ops w Lq l a →
    wpAnyL P md ops w n (fun listed' a' => midB md ops n listed' = true ∧ Lq a') l.length listed a
  | [], k, listed, a, _, hk, _, hB, h => ⟨hB, h⟩
  | o :: l, k, listed, a, hl, hk, inv, hB, h => by
    have h0 : ops[k]? = some o := by simpa using (hl 0 (by simp)).symm
    simp only [List.length_cons, headB, Bool.and_eq_true] at hB
    obtain ⟨⟨hr, hf⟩, hB'⟩ := hB
    have hkn : k < n := by simp only [List.length_cons] at hk; omega
    have hr' : k ∈ Region.ready md ops listed := by simpa using hr
    have hst : stOp P ops w k (wpStill P ops w Lq l) a := by unfold stOp; simp only [h0]; exact h
    obtain ⟨v, hy, hK⟩ := yieldsAt_of_stOp h0 hst
    refine wpAnyL_first' h0 (Region.noSelect_spec hsel) hs hc hn hkn (fun listed' a' hL => ?_) l.length listed a inv (Region.free_spec h0 hf) hr' hy
      (wpAnyL_mid hsel hs hc hn l (k + 1) _ _ (fun j hj => by have := hl (j + 1) (by simp; omega); simpa [Nat.add_assoc, Nat.add_comm 1 j] using this) (by simp only [List.length_cons] at hk; omega) (inv.set hr' hkn) hB' hK)
    have h1 := hL.1
    simp only [midB, Bool.and_eq_true, decide_eq_true_eq] at h1
    intro j hj
    rw [h1.1] at hj
    have : j = n := by simpa using hj
    omega

/-- THE RULE: the operations ahead of n only read; n may do what it likes; those behind n only read. -/
theorem wp_region_mid {id : Nat} {Q : Exit → Act → World → Prop} {a : Act} {l : List Oper} (n : Nat) {o : Oper} (ho : l[n]? = some o) (hm : P.follows .mixedOrders = true) (hB : midRegionB .any l.toArray n = true)
    (h : wpStill P l.toArray { w with drawn := w.drawn + 1 } (fun a' => wpList P l.toArray (Exit.then (fun a2 w2 => wpStill P l.toArray w2 (fun a3 => Q .normal a3 w2) (l.drop (n + 1)) a2) Q) [o] a' { w with drawn := w.drawn + 1 }) (l.take n) a) :
    (Code.region id l.toArray true).wp P Q a w := by
  simp only [midRegionB, Bool.and_eq_true, decide_eq_true_eq] at hB
  obtain ⟨⟨⟨⟨hsel, hn⟩, hs⟩, hc⟩, hlex⟩ := hB
  have hn' : n < l.length := by simpa using hn
  have htl : (l.take n).length = n := by simp; omega
  have inv0 : HeadInv .any l.toArray n (Array.replicate l.toArray.size false) :=
    ⟨by simp, fun j oj _ hl => (by rw [getD_replicate_false] at hl; cases hl), fun t _ ht => getD_in (by simpa using ht) (getD_replicate_false _ _)⟩
  have H := wpAnyL_mid (md := .any) hsel hs hc hn (l.take n) 0 _ a (fun j hj => by
    have hj' : j < n := by rw [htl] at hj; exact hj
    simp [hj']) (by simpa using htl) inv0 (by rw [htl]; exact hlex) h
  refine wp_region_any hm ?_
  have hdl : (l.drop (n + 1)).length = l.toArray.size - (n + 1) := by simp
  have := wpAny_of_head (Q' := Q) (g := (l.toArray.size - (n + 1)) + 1) (fun listed a' hL => by
    obtain ⟨hmid, hL⟩ := hL
    simp only [midB, Bool.and_eq_true, decide_eq_true_eq] at hmid
    obtain ⟨hr1, hlex1⟩ := hmid
    refine ⟨fun h0 => (by rw [hr1] at h0; cases h0), fun i hi => ?_⟩
    rw [hr1] at hi
    have hin : i = n := by simpa using hi
    subst hin
    have hw : wpOp P l.toArray (Exit.then (fun a2 w2 => wpStill P l.toArray w2 (fun a3 => Q .normal a3 w2) (l.drop (i + 1)) a2) Q) i (wpList P l.toArray (Exit.then (fun a2 w2 => wpStill P l.toArray w2 (fun a3 => Q .normal a3 w2) (l.drop (i + 1)) a2) Q) []) a' { w with drawn := w.drawn + 1 } := by
      unfold wpOp; simp only [List.getElem?_toArray, ho]; exact hL
    have hK : ∀ (a2 : Act) (w2 : World), wpList P l.toArray (Exit.then (fun a2 w2 => wpStill P l.toArray w2 (fun a3 => Q .normal a3 w2) (l.drop (i + 1)) a2) Q) [] a2 w2 →
        wpAny P .any l.toArray Q (l.toArray.size - (i + 1)) (listed.setIfInBounds i true) a2 w2 := fun a2 w2 h2 => by
      have h3 : wpStill P l.toArray w2 (fun a3 => Q .normal a3 w2) (l.drop (i + 1)) a2 := h2
      have h4 := wpAnyS_lex (md := .any) (P := P) (w := w2) hsel (l.drop (i + 1)) (i + 1) (listed.setIfInBounds i true) a2 (fun j => by simp [List.getElem?_drop]) (by rw [hdl]; exact hlex1) h3
      rw [hdl] at h4
      exact wpAny_of_still (Q' := Q) (fun _ h => h) _ _ _ h4
    unfold wpOp at hw ⊢
    simp only [List.getElem?_toArray, ho] at hw ⊢
    split
    · rename_i hwn
      simp only [hwn, if_true] at hw
      rcases hw with hw | ⟨hw, hl⟩
      · exact .inl (wp_then hK hw)
      · obtain ⟨a0, w0, hq⟩ := hl
        exact .inr ⟨hw, a0, w0, hq⟩
    · rename_i hwn
      simp only [hwn] at hw
      exact hK _ _ hw) _ _ _ H
  rw [htl, show n + ((l.toArray.size - (n + 1)) + 1) = l.toArray.size by omega] at this
  exact this
where
  wp_then {P : Program} {o : Oper} {a : Act} {w : World} {K K' N : Act → World → Prop} {Q : Exit → Act → World → Prop} (hK : ∀ a w, K a w → K' a w) (h : o.wp P a w K (Exit.then N Q)) : o.wp P a w K' Q := by
    unfold Oper.wp at *
    generalize (execOp a.eval o).run P w = r at *
    cases r with
    | ok n w' =>
      cases n <;> simp only [Oper.upon] at h ⊢ <;>
        first
          | exact hK _ _ h
          | exact Calls.mono h (fun e w'' he => by cases e <;> first | exact hK _ _ he | exact he)
          | exact Rows.mono h (fun _ _ he => hK _ _ he)
    | halt x w' => cases x <;> simp only [Oper.upon] at h ⊢ <;> exact h
end
end Go.Proofs.Ck
