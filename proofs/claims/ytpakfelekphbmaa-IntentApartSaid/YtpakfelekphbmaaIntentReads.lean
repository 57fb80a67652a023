/- IntentReads: the walk. -/
import Derived.Test.YtpakfelekphbmaaAwake17
namespace Go.Proofs.Ck
open Go Go.RowKit

theorem same_self {S S' : Nat → Prop} {w : World} {A A' : Option Addr} {c c' : Nat} {l : List (Nat × Nat)} (h0 : Puts S w A l) (h1 : Puts S' w A' l) (hn : l.length ≤ 17592186044416) :
    Calls Try.prog 91 #[.slice A l.length c, .slice A' l.length c'] w fun e w' => e = .returned (.bool true) ∧ Grow w w' := by
  have := same_call (c := c) (c' := c') h0 h1 hn
  rwa [decide_eq_true rfl] at this
theorem readF_len (f : Nat → Nat) (c : Int) : (readF f c).length ≤ 24 := by
  unfold readF
  split
  · next h => rw [readN_length]; exact h.2
  · simp
theorem read_any {w : World} {v : Value} {f : Nat → Nat} (h : TxAny w v f) (c : Int) :
    Calls Try.prog 93 #[v, .int .i64 c] w fun e w' => ∃ A m, e = .returned (.slice A (readF f c).length m) ∧ Puts (fun b => w.heap.size ≤ b) w' A (readF f c) ∧ Grow w w' := by
  unfold readF
  by_cases hc : 0 ≤ c ∧ c < 8
  · obtain ⟨C, rfl⟩ := Int.eq_ofNat_of_zero_le hc.1
    rw [show (C : Int).toNat = C from rfl]
    by_cases h24 : f (64 + 416 * C + 16) ≤ 24
    · rw [if_pos ⟨hc, h24⟩, readN_length]
      have := read_ok h C (by omega) _ (by rw [atN_ok (by omega) rfl (by omega)]) h24
      refine this.mono fun e w' ⟨A, m, h1, h2, h3⟩ => ⟨A, m, h1, ?_, h3⟩
      show Row _ _ _ (readN f C (f (64 + 416 * C + 16))).length 2 _
      rw [readN_length]
      exact h2
    · rw [if_neg (fun hh => h24 hh.2)]
      exact (read_nil h C _ rfl (.inr (by rw [atN_ok (by omega) rfl (by omega)]; omega))).mono fun e w' ⟨h1, h2⟩ => ⟨none, 0, h1, Row.empty, h2⟩
  · rw [if_neg (fun hh => hc hh.1)]
    exact (read_nil h c _ rfl (.inl hc)).mono fun e w' ⟨h1, h2⟩ => ⟨none, 0, h1, Row.empty, h2⟩
theorem rread_any {rv : Value} {f : Nat → Nat} {w : World} {X : Nat → Prop} (h : RefF rv f w X) (c : Int) :
    Calls Try.prog 94 #[rv, .int .i64 c] w fun e w' => ∃ A m, e = .returned (.slice A (readF f c).length m) ∧ Puts (fun b => w.heap.size ≤ b) w' A (readF f c) ∧ Grow w w' := by
  unfold readF
  by_cases hc : 0 ≤ c ∧ c < 8
  · obtain ⟨C, rfl⟩ := Int.eq_ofNat_of_zero_le hc.1
    rw [show (C : Int).toNat = C from rfl]
    by_cases h24 : f (64 + 416 * C + 16) ≤ 24
    · rw [if_pos ⟨hc, h24⟩, readN_length]
      have := rread_ok h C (by omega) _ rfl h24
      refine this.mono fun e w' ⟨A, m, h1, h2, h3⟩ => ⟨A, m, h1, ?_, h3⟩
      show Row _ _ _ (readN f C (f (64 + 416 * C + 16))).length 2 _
      rw [readN_length]
      exact h2
    · rw [if_neg (fun hh => h24 hh.2)]
      exact (rread_nil h C _ (get_of (by omega) rfl rfl) (.inr (by omega))).mono fun e w' ⟨h1, h2⟩ => ⟨none, 0, h1, Row.empty, h2⟩
  · rw [if_neg (fun hh => hc hh.1)]
    exact (rread_nil h c 0 (by unfold getF; rw [if_neg hc]) (.inl rfl)).mono fun e w' ⟨h1, h2⟩ => ⟨none, 0, h1, Row.empty, h2⟩

set_option maxRecDepth 100000 in
set_option maxHeartbeats 4000000 in
theorem intentReads {w : World} {A : Option Addr} {n : Nat} {l : List (Nat × Nat)} (c : Int) (hl : Puts (fun b => b < w.heap.size) w A l) (hm : l.length ≤ 9223372036854775807)
    (hx : ∀ p ∈ l, p.1 < 18446744073709551616 ∧ p.2 < 18446744073709551616) :
    Calls Try.prog 19 #[.slice A l.length n, .int .i64 c] w fun e w' => e = .returned (.bool true) ∧ Grow w w' := by
  go_enter Try.func19, Try.ntmps19
  go_wp2_with fail
  refine (awake17 w).mono ?_
  rintro e w1 ⟨rfl, hg⟩
  go_wp2_with fail
  refine (formed_law hg hl fun hl1 => formed92 (c := n) 4480 (by unfold fits; omega) hl1 hm hx).mono ?_
  rintro e w2 ⟨base, p, A', n1, c', B', n2, d', rfl, L2⟩
  clear hl hx hg
  generalize fillF 4480 (l.take 60) = f at L2
  have hlen := readF_len f c
  have L3 := L2.alloc #[.slice A' n1 c', .slice B' n2 d'] 67
  clear L2
  go_wp2_with fail
  generalize w2.alloc (Obj.cells #[.slice A' n1 c', .slice B' n2 d'] 67) = w3 at L3 ⊢
  have hB := L3.box (List.mem_cons_self ..)
  have hgw := L3.done
  obtain ⟨X, hX⟩ := L3.know
  have h1 := fun w4 (hg : Grow w3 w4) => read_any (L3.any.grow hg) c
  have h2 := fun w4 (hg : Grow w3 w4) => rread_any (hX.1.grow hg) c
  clear hX L3
  generalize readF f c = L at *
  have c0 : w3.cell? ⟨w2.heap.size, 0, none⟩ = some (.slice A' n1 c') := by rw [cell_of_heap hB]; rfl
  have c1 : w3.cell? ⟨w2.heap.size, 1, none⟩ = some (.slice B' n2 d') := by rw [cell_of_heap hB]; rfl
  go_region_held3 (fun w' => w'.cell? ⟨w2.heap.size, 0, none⟩ = some (.slice A' n1 c') ∧ w'.cell? ⟨w2.heap.size, 1, none⟩ = some (.slice B' n2 d') ∧ Grow w3 w')
    (first | exact ⟨c0, c1, (Below.refl _ _).drew⟩ | exact ⟨(cell_of_heap (hgf.heap hB) 0).trans rfl, (cell_of_heap (hgf.heap hB) 1).trans rfl, hgf⟩)
    (first
      | (go_at_call 93; go_split_ands; (with_reducible refine Calls.mono (h1 _ (by assumption)) ?_); rintro e wn ⟨A1, m1, rfl, r1, hgn⟩
         first | (have hgf := hgf.trans hgn) | (have hgf := (grow_drew w3).trans hgn)
         first | (have r2 := r2.grow hgn) | skip)
      | (go_at_call 94; go_split_ands; (with_reducible refine Calls.mono (h2 _ (by assumption)) ?_); rintro e wn ⟨A2, m2, rfl, r2, hgn⟩
         first | (have hgf := hgf.trans hgn) | (have hgf := (grow_drew w3).trans hgn)
         first | (have r1 := r1.grow hgn) | skip)
      | (go_at_call 91; (with_reducible refine Calls.mono (same_self r1 r2 (by omega)) ?_); rintro e wn ⟨rfl, hgn⟩; have hgf := hgf.trans hgn))
  have hg := hgw.trans hgf
  clear h1 h2 c0 c1
  go_wp2
  go_ret
  exact ⟨rfl, hg⟩
end Go.Proofs.Ck
