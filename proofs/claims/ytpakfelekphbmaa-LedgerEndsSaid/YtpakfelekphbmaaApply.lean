/- The document's words with what is thought of stored; the segment's head checked. -/
import Derived.Test.YtpakfelekphbmaaLay
import Derived.Test.YtpakfelekphbmaaGSeg
import Derived.Test.YtpakfelekphbmaaGDirW
import Derived.Test.YtpakfelekphbmaaGTx
namespace Go.Proofs.Ck
open Go Go.RowKit

def applyW (W : List Nat) (p : List (Nat × Nat)) : List Nat := p.foldl (fun W q => stored W q.1 q.2) W
theorem applyW_length (W : List Nat) (p : List (Nat × Nat)) : (applyW W p).length = W.length := by
  unfold applyW
  induction p generalizing W with
  | nil => rfl
  | cons q p ih => rw [List.foldl_cons, ih, stored_length]
theorem applyW_snoc (W : List Nat) (p : List (Nat × Nat)) (q : Nat × Nat) : applyW W (p ++ [q]) = stored (applyW W p) q.1 q.2 := by
  unfold applyW
  rw [List.foldl_append, List.foldl_cons, List.foldl_nil]
theorem applyW_low {W : List Nat} {p : List (Nat × Nat)} (h : ∀ k ∈ p.map (·.1), 3776 ≤ k) {i : Nat} (hi : i < 472) : (applyW W p).getD i 0 = W.getD i 0 := by
  unfold applyW
  induction p generalizing W with
  | nil => rfl
  | cons q p ih =>
    rw [List.foldl_cons, ih (fun k hk => h k (List.mem_cons_of_mem _ hk))]
    have := h q.1 (List.mem_cons_self ..)
    unfold stored
    split
    · rw [List.getD_eq_getElem?_getD, List.getElem?_set, if_neg (by omega), ← List.getD_eq_getElem?_getD]
    · rfl
def LowS (σ : St) : Prop := ∀ k ∈ σ.p.map (·.1), 3776 ≤ k
theorem LowS.store {σ : St} (h : LowS σ) {off : Nat} (ho : 3776 ≤ off) (x : Nat) : LowS (σ.store off x) := by
  unfold St.store
  split
  · intro k hk
    simp only [pput_keys] at hk
    split at hk
    · exact h k hk
    · rcases List.mem_append.1 hk with hk | hk
      · exact h k hk
      · rw [List.mem_singleton] at hk; subst hk; exact ho
  · exact h
theorem layOne_low {σ : St} (h : LowS σ) {off : Nat} (ho : 3776 ≤ off) (q : Nat × Nat × Nat) : LowS (layOne σ off q) := by
  have := pS_le q
  unfold layOne
  simp only
  split
  · exact ((h.store ho _).store (by omega) _).store (by omega) _
  · exact (h.store ho _).store (by omega) _
theorem layS_low {σ : St} (h : LowS σ) {off : Nat} (ho : 3776 ≤ off) (he : off + 48 ≤ 4800) (l : List (Nat × Nat × Nat)) : LowS (layS 4800 σ off l) ∧ (layS 4800 σ off l).W = σ.W := by
  induction l generalizing σ off with
  | nil => exact ⟨(h.store ho _).store (by omega) _, by simp [layS, store_W]⟩
  | cons q l ih =>
    have hp := pS_le q
    unfold layS
    split
    · exact ⟨(h.store ho _).store (by omega) _, by simp [store_W]⟩
    · have := ih (layOne_low h ho q) (off := off + pS q) (by omega) (by omega)
      exact ⟨this.1, this.2.trans (layOne_W off q)⟩

set_option maxRecDepth 100000 in
set_option maxHeartbeats 4000000 in
theorem rapply {rv : Value} {σ : St} {w : World} {X : Nat → Prop} (h : RefS rv σ w X) (hf : FineS σ) :
    Calls Try.prog 206 #[rv] w fun e w' => (∃ A' c', e = .returned (.slice A' 600 c') ∧ Row (fun _ => True) w' A' 600 1 (u64s (applyW σ.W σ.p))) ∧ Grow w w' := by
  obtain ⟨A, c, B, d, rfl, hA, hB, -⟩ := h
  have hW := hf.words
  have hpl := hf.fine.few
  have hA' : Row (fun _ => True) w A 600 1 (u64s σ.W) := by have := hA.mono (S' := fun _ => True) fun _ _ _ => trivial; rw [← hW]; exact this
  have hB' : Row (fun _ => True) w B σ.p.length 2 (puts σ.p) := hB.mono fun _ _ _ => trivial
  have hk : ∀ j, j < σ.p.length → (σ.p.getD j (0, 0)).1 < 18446744073709551616 := fun j hj => by
    have := (hf.keys (σ.p.getD j (0, 0)).1 (List.mem_map.2 ⟨_, by rw [List.getD_eq_getElem?_getD, List.getElem?_eq_getElem hj]; exact List.getElem_mem _, rfl⟩)).2
    omega
  have hg0 : Grow w (w.alloc (.cells #[.slice A σ.W.length c, .slice B σ.p.length d] 67)) := (Below.refl _ _).alloc (Nat.le_refl _) _
  have hbx : (w.alloc (.cells #[.slice A σ.W.length c, .slice B σ.p.length d] 67)).heap[w.heap.size]? = some (.cells #[.slice A σ.W.length c, .slice B σ.p.length d] 67 (0, 0)) := World.alloc_heap_new w _
  have a0 : (w.alloc (.cells #[.slice A σ.W.length c, .slice B σ.p.length d] 67)).cell? ⟨w.heap.size, 0, none⟩ = some (.slice A σ.W.length c) := by rw [cell_of_heap hbx]; rfl
  have h0 := hA'.grow hg0
  have hp0 := hB'.grow hg0
  have hW0 : u64s σ.W = u64s (applyW σ.W (σ.p.take 0)) := by rw [List.take_zero]; rfl
  rw [hW0] at h0
  rw [show (w.alloc (.cells #[.slice A σ.W.length c, .slice B σ.p.length d] 67)) = w.alloc (.cells #[.slice A 600 c, .slice B σ.p.length d] 67) by rw [hW]] at hg0 hbx a0 h0 hp0
  rw [hW] at hbx a0 ⊢
  have HP := Lib.hid hp0
  clear hA hB hA' hB' hW0
  go_enter Try.func206, Try.ntmps206
  go_wp2_with fail
  generalize hwa : w.alloc (.cells #[.slice A 600 c, .slice B σ.p.length d] 67) = wa at *
  clear hwa a0
  go_loopw [3, 4] (fun v i wr => ∃ k : Nat, k ≤ σ.p.length ∧ i = .int .i64 (k : Int) ∧ (∃ A2 c2, v = .slice A2 600 c2 ∧ Row (fun _ => True) wr A2 600 1 (u64s (applyW σ.W (σ.p.take k)))) ∧ Grow wa wr)
      (fun _ i _ => σ.p.length - (intOf i).toNat)
  case atStart => exact ⟨0, Nat.zero_le _, rfl, ⟨_, _, rfl, h0⟩, Below.refl _ _⟩
  case round =>
    obtain ⟨k, hk', rfl, ⟨A2, c2, rfl, hrow⟩, hg⟩ := hrel
    have hbr := hg.heap hbx
    have b1 : wr.cell? ⟨w.heap.size, 1, none⟩ = some (.slice B σ.p.length d) := by rw [cell_of_heap hbr]; rfl
    by_cases hlt : k < σ.p.length
    · have hnx : applyW σ.W (σ.p.take (k + 1)) = stored (applyW σ.W (σ.p.take k)) (σ.p.getD k (0, 0)).1 (σ.p.getD k (0, 0)).2 := by rw [take_succ_getD' hlt, applyW_snoc]
      obtain ⟨b, o, rfl, -, hc⟩ := (HP.out.grow hg).pos (by omega) (by omega)
      have hx1 := hc (k * 2) _ (puts_get hlt).1
      have hx2 := hc (k * 2 + 1) _ (puts_get hlt).2
      rw [← Nat.add_assoc] at hx2
      have g0 : decide ((k : Int) < σ.p.length) = true := decide_eq_true (by omega)
      have hkk := hk k hlt
      have hlen : (applyW σ.W (σ.p.take k)).length = 600 := by rw [applyW_length]; exact hW
      have HS := Lib.hid (rstore_any (c := c2) (hrow.grow (grow_drew _)) hlen (σ.p.getD k (0, 0)).1 (σ.p.getD k (0, 0)).2 hkk (by omega))
      clear hc hk hrow hf hW
      generalize σ.p.getD k (0, 0) = p at hnx hkk hx1 hx2 HS
      obtain ⟨p1, p2⟩ := p
      simp only at hnx hkk hx1 hx2 HS
      have HNX := Lib.hid hnx
      clear hnx
      go_wp2
      refine wp_region_mid 13 rfl (by kernel_rfl) (by kernel_rfl) ?_
      simp only [List.take_succ_cons, List.take_zero, List.drop_succ_cons, List.drop_zero]
      repeat still_step
      refine wpStill_nil ?_
      change wpList _ _ _ _ _ wr.drew
      go_wp2_with fail
      refine HS.out.mono ?_
      rintro e w6 ⟨⟨A', c', rfl, hrow6⟩, hg6⟩
      have hg7 : Grow wa w6 := hg.trans (Grow.trans (grow_drew _) hg6)
      have hrow7 : Row (fun _ => True) w6 A' 600 1 (u64s (stored (applyW σ.W (σ.p.take k)) p1 p2)) := hrow6.mono fun _ _ _ => trivial
      clear HS hrow6 hg6 hg hbr b1 hx1 hx2
      go_wp2_with fail
      repeat still_step
      refine wpStill_nil ?_
      go_wp2
      go_roundw
      case rel => exact ⟨k + 1, by omega, by go_num, ⟨A', c', rfl, by rw [HNX.out]; exact hrow7⟩, hg7⟩
      case measure => simp [intOf]; omega
    · obtain rfl : k = σ.p.length := by omega
      have g0 : decide ((σ.p.length : Int) < σ.p.length) = false := decide_eq_false (by omega)
      rw [List.take_length] at hrow
      clear hk hf hW hpl
      go_wp2
      go_ret
      exact ⟨⟨A2, c2, rfl, hrow⟩, hg0.trans hg⟩

theorem fmt_word0 : (fmtW 600 4800).getD 0 0 = 7161130718081542961 := by
  unfold fmtW
  rw [List.getD_eq_getElem?_getD]
  repeat rw [List.getElem?_set, if_neg (by omega)]
  rw [List.getElem?_set, if_pos rfl, if_pos (by (repeat rw [List.length_set]); rw [List.length_replicate]; omega)]
  rfl
theorem fmt_word1 : (fmtW 600 4800).getD 1 0 = 1 := by
  unfold fmtW
  rw [List.getD_eq_getElem?_getD]
  repeat rw [List.getElem?_set, if_neg (by omega)]
  rw [List.getElem?_set, if_pos rfl, if_pos (by (repeat rw [List.length_set]); rw [List.length_replicate]; omega)]
  rfl
theorem fmt_word2 : (fmtW 600 4800).getD 2 0 = 4800 := by
  unfold fmtW
  rw [List.getD_eq_getElem?_getD]
  repeat rw [List.getElem?_set, if_neg (by omega)]
  rw [List.getElem?_set, if_pos rfl, if_pos (by (repeat rw [List.length_set]); rw [List.length_replicate]; omega)]
  rfl
theorem fmt_word5 : (fmtW 600 4800).getD 5 0 = ckSum 4800 := by
  unfold fmtW
  rw [List.getD_eq_getElem?_getD]
  repeat rw [List.getElem?_set, if_neg (by omega)]
  rw [List.getElem?_set, if_pos rfl, if_pos (by (repeat rw [List.length_set]); rw [List.length_replicate]; omega)]
  rfl

set_option maxRecDepth 100000 in
set_option maxHeartbeats 4000000 in
theorem rheadS {w : World} {A : Option Addr} {c : Nat} {W : List Nat} (h : Row (fun _ => True) w A 600 1 (u64s W)) (hl : W.length = 600) (h0 : W.getD 0 0 = 7161130718081542961) (h1 : W.getD 1 0 = 1) (h2 : W.getD 2 0 = 4800) (h5 : W.getD 5 0 = ckSum 4800) :
    Calls Try.prog 205 #[.slice A 600 c] w fun e w' => e = .returned (.int .i64 0) ∧ Grow w w' := by
  have HR := Lib.hid h
  have cellk : ∀ {w' : World}, Grow w w' → ∃ b o, A = some ⟨b, o, none⟩ ∧ w'.cell? ⟨b, o, none⟩ = some (.int .u64 7161130718081542961) ∧ w'.cell? ⟨b, o + 1, none⟩ = some (.int .u64 1) ∧ w'.cell? ⟨b, o + 2, none⟩ = some (.int .u64 4800) ∧ w'.cell? ⟨b, o + 5, none⟩ = some (.int .u64 (ckSum 4800 : Int)) := fun {w'} hg => by
    obtain ⟨b, o, e, -, hc⟩ := (h.grow hg).pos (by omega) (by omega)
    have x0 := hc 0 _ (u64s_get (by omega))
    have x1 := hc 1 _ (u64s_get (by omega))
    have x2 := hc 2 _ (u64s_get (by omega))
    have x5 := hc 5 _ (u64s_get (by omega))
    rw [h0] at x0; rw [h1] at x1; rw [h2] at x2; rw [h5] at x5
    exact ⟨b, o, e, x0, x1, x2, x5⟩
  have hfc := rfits_ok 4800 4800 (by unfold fits; omega)
  have hsc := rsum_call 4800 (by omega)
  obtain ⟨b, o, rfl, x0, x1, x2, x5⟩ := cellk (Below.refl _ w)
  clear h h0 h1 h2 h5 hl HR cellk
  have tS : ((ckSum 4800 : Nat) : Int) = ((ckSum 4800 : Nat) : Int) := rfl
  generalize ckSum 4800 = S at *
  have u0 : ((S : Int) != S) = false := by simp
  clear tS
  go_enter Try.func205, Try.ntmps205
  go_wp2
  refine region_plain (fun w' => w'.cell? ⟨b, o, none⟩ = some (.int .u64 7161130718081542961) ∧ w'.cell? ⟨b, o + 1, none⟩ = some (.int .u64 1) ∧ w'.cell? ⟨b, o + 2, none⟩ = some (.int .u64 4800) ∧ w'.cell? ⟨b, o + 5, none⟩ = some (.int .u64 (S : Int))) (by kernel_rfl) ⟨x0, x1, x2, x5⟩ (fun hHeld => ?_)
  refine wpAnyH_take (i := 0) (v := ?_) rfl (by kernel_rfl) (by kernel_rfl) (by kernel_rfl) (fun _ _ _ h => h) (Or.inl ⟨by first | kernel_rfl | rfl, ?_⟩) (by assumption) ?_
  rotate_left
  · intro w hSw; (try dsimp only at hSw); (try go_split_ands); go_simp; first | done | with_reducible rfl
  try simp only [Act.put, List.getElem_toArray, List.getElem_cons_zero, List.setIfInBounds_toArray, List.set_cons_zero, List.set_cons_succ]
  refine wpAnyH_take (i := 1) (v := ?_) rfl (by kernel_rfl) (by kernel_rfl) (by kernel_rfl) (fun _ _ _ h => h) (Or.inl ⟨by first | kernel_rfl | rfl, ?_⟩) (by assumption) ?_
  rotate_left
  · intro w hSw; (try dsimp only at hSw); (try go_split_ands); go_simp; first | done | with_reducible rfl
  try simp only [Act.put, List.getElem_toArray, List.getElem_cons_succ, List.getElem_cons_zero, List.setIfInBounds_toArray, List.set_cons_zero, List.set_cons_succ]
  refine wpAnyH_take (i := 2) (v := ?_) rfl (by kernel_rfl) (by kernel_rfl) (by kernel_rfl) (fun _ _ _ h => h) (Or.inl ⟨by first | kernel_rfl | rfl, ?_⟩) (by assumption) ?_
  rotate_left
  · intro w hSw; (try dsimp only at hSw); (try go_split_ands); go_simp; first | done | with_reducible rfl
  try simp only [Act.put, List.getElem_toArray, List.getElem_cons_succ, List.getElem_cons_zero, List.setIfInBounds_toArray, List.set_cons_zero, List.set_cons_succ]
  refine wpAnyH_take (i := 3) (v := ?_) rfl (by kernel_rfl) (by kernel_rfl) (by kernel_rfl) (fun _ _ _ h => h) (Or.inl ⟨by first | kernel_rfl | rfl, ?_⟩) (by assumption) ?_
  rotate_left
  · intro w hSw; (try dsimp only at hSw); (try go_split_ands); go_simp; first | done | with_reducible rfl
  try simp only [Act.put, List.getElem_toArray, List.getElem_cons_succ, List.getElem_cons_zero, List.setIfInBounds_toArray, List.set_cons_zero, List.set_cons_succ]
  refine wpAnyH_take (i := 4) (v := ?_) rfl (by kernel_rfl) (by kernel_rfl) (by kernel_rfl) (fun _ _ _ h => h) (Or.inl ⟨by first | kernel_rfl | rfl, ?_⟩) (by assumption) ?_
  rotate_left
  · intro w hSw; (try dsimp only at hSw); (try go_split_ands); go_simp; first | done | with_reducible rfl
  try simp only [Act.put, List.getElem_toArray, List.getElem_cons_succ, List.getElem_cons_zero, List.setIfInBounds_toArray, List.set_cons_zero, List.set_cons_succ]
  refine wpAnyH_take (i := 5) (v := ?_) rfl (by kernel_rfl) (by kernel_rfl) (by kernel_rfl) (fun _ _ _ h => h) (Or.inl ⟨by first | kernel_rfl | rfl, ?_⟩) (by assumption) ?_
  rotate_left
  · intro w hSw; (try dsimp only at hSw); (try go_split_ands); go_simp; first | done | with_reducible rfl
  try simp only [Act.put, List.getElem_toArray, List.getElem_cons_succ, List.getElem_cons_zero, List.setIfInBounds_toArray, List.set_cons_zero, List.set_cons_succ]
  refine wpAnyH_take (i := 6) (v := ?_) rfl (by kernel_rfl) (by kernel_rfl) (by kernel_rfl) (fun _ _ _ h => h) (Or.inl ⟨by first | kernel_rfl | rfl, ?_⟩) (by assumption) ?_
  rotate_left
  · intro w hSw; (try dsimp only at hSw); (try go_split_ands); go_simp; first | done | with_reducible rfl
  try simp only [Act.put, List.getElem_toArray, List.getElem_cons_succ, List.getElem_cons_zero, List.setIfInBounds_toArray, List.set_cons_zero, List.set_cons_succ]
  refine wpAnyH_take (i := 7) (v := ?_) rfl (by kernel_rfl) (by kernel_rfl) (by kernel_rfl) (fun _ _ _ h => h) (Or.inl ⟨by first | kernel_rfl | rfl, ?_⟩) (by assumption) ?_
  rotate_left
  · intro w hSw; (try dsimp only at hSw); (try go_split_ands); go_simp; first | done | with_reducible rfl
  try simp only [Act.put, List.getElem_toArray, List.getElem_cons_succ, List.getElem_cons_zero, List.setIfInBounds_toArray, List.set_cons_zero, List.set_cons_succ]
  refine wpAnyH_take (i := 8) (v := ?_) rfl (by kernel_rfl) (by kernel_rfl) (by kernel_rfl) (fun _ _ _ h => h) (Or.inl ⟨by first | kernel_rfl | rfl, ?_⟩) (by assumption) ?_
  rotate_left
  · intro w hSw; (try dsimp only at hSw); (try go_split_ands); go_simp; first | done | with_reducible rfl
  try simp only [Act.put, List.getElem_toArray, List.getElem_cons_succ, List.getElem_cons_zero, List.setIfInBounds_toArray, List.set_cons_zero, List.set_cons_succ]
  refine wpAnyH_take (i := 9) (v := ?_) rfl (by kernel_rfl) (by kernel_rfl) (by kernel_rfl) (fun _ _ _ h => h) (Or.inl ⟨by first | kernel_rfl | rfl, ?_⟩) (by assumption) ?_
  rotate_left
  · intro w hSw; (try dsimp only at hSw); (try go_split_ands); go_simp; first | done | with_reducible rfl
  try simp only [Act.put, List.getElem_toArray, List.getElem_cons_succ, List.getElem_cons_zero, List.setIfInBounds_toArray, List.set_cons_zero, List.set_cons_succ]
  refine wpAnyH_take (i := 10) (v := ?_) rfl (by kernel_rfl) (by kernel_rfl) (by kernel_rfl) (fun _ _ _ h => h) (Or.inl ⟨by first | kernel_rfl | rfl, ?_⟩) (by assumption) ?_
  rotate_left
  · intro w hSw; (try dsimp only at hSw); (try go_split_ands); go_simp; first | done | with_reducible rfl
  try simp only [Act.put, List.getElem_toArray, List.getElem_cons_succ, List.getElem_cons_zero, List.setIfInBounds_toArray, List.set_cons_zero, List.set_cons_succ]
  refine wpAnyH_take (i := 11) (v := ?_) rfl (by kernel_rfl) (by kernel_rfl) (by kernel_rfl) (fun _ _ _ h => h) (Or.inl ⟨by first | kernel_rfl | rfl, ?_⟩) (by assumption) ?_
  rotate_left
  · intro w hSw; (try dsimp only at hSw); (try go_split_ands); go_simp; first | done | with_reducible rfl
  try simp only [Act.put, List.getElem_toArray, List.getElem_cons_succ, List.getElem_cons_zero, List.setIfInBounds_toArray, List.set_cons_zero, List.set_cons_succ]
  refine wpAnyH_take (i := 12) (v := ?_) rfl (by kernel_rfl) (by kernel_rfl) (by kernel_rfl) (fun _ _ _ h => h) (Or.inl ⟨by first | kernel_rfl | rfl, ?_⟩) (by assumption) ?_
  rotate_left
  · intro w hSw; (try dsimp only at hSw); (try go_split_ands); go_simp; first | done | with_reducible rfl
  try simp only [Act.put, List.getElem_toArray, List.getElem_cons_succ, List.getElem_cons_zero, List.setIfInBounds_toArray, List.set_cons_zero, List.set_cons_succ]
  refine wpAnyH_take (i := 13) (v := ?_) rfl (by kernel_rfl) (by kernel_rfl) (by kernel_rfl) (fun _ _ _ h => h) (Or.inl ⟨by first | kernel_rfl | rfl, ?_⟩) (by assumption) ?_
  rotate_left
  · intro w hSw; (try dsimp only at hSw); (try go_split_ands); go_simp; first | done | with_reducible rfl
  try simp only [Act.put, List.getElem_toArray, List.getElem_cons_succ, List.getElem_cons_zero, List.setIfInBounds_toArray, List.set_cons_zero, List.set_cons_succ]
  refine wpAnyH_take (i := 14) (v := ?_) rfl (by kernel_rfl) (by kernel_rfl) (by kernel_rfl) (fun _ _ _ h => h) (Or.inl ⟨by first | kernel_rfl | rfl, ?_⟩) (by assumption) ?_
  rotate_left
  · intro w hSw; (try dsimp only at hSw); (try go_split_ands); go_simp; first | done | with_reducible rfl
  try simp only [Act.put, List.getElem_toArray, List.getElem_cons_succ, List.getElem_cons_zero, List.setIfInBounds_toArray, List.set_cons_zero, List.set_cons_succ]
  refine wpAnyH_take (i := 15) (v := ?_) rfl (by kernel_rfl) (by kernel_rfl) (by kernel_rfl) (fun _ _ _ h => h) (Or.inl ⟨by first | kernel_rfl | rfl, ?_⟩) (by assumption) ?_
  rotate_left
  · intro w hSw; (try dsimp only at hSw); (try go_split_ands); go_simp; first | done | with_reducible rfl
  try simp only [Act.put, List.getElem_toArray, List.getElem_cons_succ, List.getElem_cons_zero, List.setIfInBounds_toArray, List.set_cons_zero, List.set_cons_succ]
  refine wpAnyH_take (i := 16) (v := ?_) rfl (by kernel_rfl) (by kernel_rfl) (by kernel_rfl) (fun _ _ _ h => h) (Or.inl ⟨by first | kernel_rfl | rfl, ?_⟩) (by assumption) ?_
  rotate_left
  · intro w hSw; (try dsimp only at hSw); (try go_split_ands); go_simp; first | done | with_reducible rfl
  try simp only [Act.put, List.getElem_toArray, List.getElem_cons_succ, List.getElem_cons_zero, List.setIfInBounds_toArray, List.set_cons_zero, List.set_cons_succ]
  refine wpAnyH_take (i := 17) (v := ?_) rfl (by kernel_rfl) (by kernel_rfl) (by kernel_rfl) (fun _ _ _ h => h) (Or.inl ⟨by first | kernel_rfl | rfl, ?_⟩) (by assumption) ?_
  rotate_left
  · intro w hSw; (try dsimp only at hSw); (try go_split_ands); go_simp; first | done | with_reducible rfl
  try simp only [Act.put, List.getElem_toArray, List.getElem_cons_succ, List.getElem_cons_zero, List.setIfInBounds_toArray, List.set_cons_zero, List.set_cons_succ]
  refine wpAnyH_take (i := 18) (v := ?_) rfl (by kernel_rfl) (by kernel_rfl) (by kernel_rfl) (fun _ _ _ h => h) (Or.inl ⟨by first | kernel_rfl | rfl, ?_⟩) (by assumption) ?_
  rotate_left
  · intro w hSw; (try dsimp only at hSw); (try go_split_ands); go_simp; first | done | with_reducible rfl
  try simp only [Act.put, List.getElem_toArray, List.getElem_cons_succ, List.getElem_cons_zero, List.setIfInBounds_toArray, List.set_cons_zero, List.set_cons_succ]
  refine wpAnyH_take (i := 19) (v := ?_) rfl (by kernel_rfl) (by kernel_rfl) (by kernel_rfl) (fun _ _ _ h => h) (Or.inl ⟨by first | kernel_rfl | rfl, ?_⟩) (by assumption) ?_
  rotate_left
  · intro w hSw; (try dsimp only at hSw); (try go_split_ands); go_simp; first | done | with_reducible rfl
  try simp only [Act.put, List.getElem_toArray, List.getElem_cons_succ, List.getElem_cons_zero, List.setIfInBounds_toArray, List.set_cons_zero, List.set_cons_succ]
  refine wpAnyH_take (i := 20) (v := ?_) rfl (by kernel_rfl) (by kernel_rfl) (by kernel_rfl) (fun _ _ _ h => h) (Or.inl ⟨by first | kernel_rfl | rfl, ?_⟩) (by assumption) ?_
  rotate_left
  · intro w hSw; (try dsimp only at hSw); (try go_split_ands); go_simp; first | done | with_reducible rfl
  try simp only [Act.put, List.getElem_toArray, List.getElem_cons_succ, List.getElem_cons_zero, List.setIfInBounds_toArray, List.set_cons_zero, List.set_cons_succ]
  refine wpAnyH_take (i := 21) (v := ?_) rfl (by kernel_rfl) (by kernel_rfl) (by kernel_rfl) (fun _ _ _ h => h) (Or.inl ⟨by first | kernel_rfl | rfl, ?_⟩) (by assumption) ?_
  rotate_left
  · intro w hSw; (try dsimp only at hSw); (try go_split_ands); go_simp; first | done | with_reducible rfl
  try simp only [Act.put, List.getElem_toArray, List.getElem_cons_succ, List.getElem_cons_zero, List.setIfInBounds_toArray, List.set_cons_zero, List.set_cons_succ]
  refine wpAnyH_take (i := 22) (v := ?_) rfl (by kernel_rfl) (by kernel_rfl) (by kernel_rfl) (fun _ _ _ h => h) (Or.inl ⟨by first | kernel_rfl | rfl, ?_⟩) (by assumption) ?_
  rotate_left
  · intro w hSw; (try dsimp only at hSw); (try go_split_ands); go_simp; first | done | with_reducible rfl
  try simp only [Act.put, List.getElem_toArray, List.getElem_cons_succ, List.getElem_cons_zero, List.setIfInBounds_toArray, List.set_cons_zero, List.set_cons_succ]
  refine wpAnyH_ready (rs := [23]) (by kernel_rfl) (by simp) ?_
  refine AllReadyH.cons rfl (fun K hK => ?_) AllReadyH.nil
  go_simp
  go_at_call 186
  refine Calls.mono (hfc _) ?_
  rintro e y1 ⟨rfl, rfl⟩
  go_wp2_with fail
  refine hK.out _ _ ?_ (fun hHeld => ?_)
  · exact ⟨x0, x1, x2, x5⟩
  clear hK K
  try simp only [Act.put, List.getElem_toArray, List.getElem_cons_succ, List.getElem_cons_zero, List.setIfInBounds_toArray, List.set_cons_zero, List.set_cons_succ]
  refine wpAnyH_take (i := 24) (v := ?_) rfl (by kernel_rfl) (by kernel_rfl) (by kernel_rfl) (fun _ _ _ h => h) (Or.inl ⟨by first | kernel_rfl | rfl, ?_⟩) (by assumption) ?_
  rotate_left
  · intro w hSw; (try dsimp only at hSw); (try go_split_ands); go_simp; first | done | with_reducible rfl
  try simp only [Act.put, List.getElem_toArray, List.getElem_cons_succ, List.getElem_cons_zero, List.setIfInBounds_toArray, List.set_cons_zero, List.set_cons_succ]
  refine wpAnyH_take (i := 25) (v := ?_) rfl (by kernel_rfl) (by kernel_rfl) (by kernel_rfl) (fun _ _ _ h => h) (Or.inl ⟨by first | kernel_rfl | rfl, ?_⟩) (by assumption) ?_
  rotate_left
  · intro w hSw; (try dsimp only at hSw); (try go_split_ands); go_simp; first | done | with_reducible rfl
  try simp only [Act.put, List.getElem_toArray, List.getElem_cons_succ, List.getElem_cons_zero, List.setIfInBounds_toArray, List.set_cons_zero, List.set_cons_succ]
  refine wpAnyH_take (i := 26) (v := ?_) rfl (by kernel_rfl) (by kernel_rfl) (by kernel_rfl) (fun _ _ _ h => h) (Or.inl ⟨by first | kernel_rfl | rfl, ?_⟩) (by assumption) ?_
  rotate_left
  · intro w hSw; (try dsimp only at hSw); (try go_split_ands); go_simp; first | done | with_reducible rfl
  try simp only [Act.put, List.getElem_toArray, List.getElem_cons_succ, List.getElem_cons_zero, List.setIfInBounds_toArray, List.set_cons_zero, List.set_cons_succ]
  refine wpAnyH_take (i := 27) (v := ?_) rfl (by kernel_rfl) (by kernel_rfl) (by kernel_rfl) (fun _ _ _ h => h) (Or.inl ⟨by first | kernel_rfl | rfl, ?_⟩) (by assumption) ?_
  rotate_left
  · intro w hSw; (try dsimp only at hSw); (try go_split_ands); go_simp; first | done | with_reducible rfl
  try simp only [Act.put, List.getElem_toArray, List.getElem_cons_succ, List.getElem_cons_zero, List.setIfInBounds_toArray, List.set_cons_zero, List.set_cons_succ]
  refine wpAnyH_take (i := 28) (v := ?_) rfl (by kernel_rfl) (by kernel_rfl) (by kernel_rfl) (fun _ _ _ h => h) (Or.inl ⟨by first | kernel_rfl | rfl, ?_⟩) (by assumption) ?_
  rotate_left
  · intro w hSw; (try dsimp only at hSw); (try go_split_ands); go_simp; first | done | with_reducible rfl
  try simp only [Act.put, List.getElem_toArray, List.getElem_cons_succ, List.getElem_cons_zero, List.setIfInBounds_toArray, List.set_cons_zero, List.set_cons_succ]
  refine wpAnyH_take (i := 29) (v := ?_) rfl (by kernel_rfl) (by kernel_rfl) (by kernel_rfl) (fun _ _ _ h => h) (Or.inl ⟨by first | kernel_rfl | rfl, ?_⟩) (by assumption) ?_
  rotate_left
  · intro w hSw; (try dsimp only at hSw); (try go_split_ands); go_simp; first | done | with_reducible rfl
  try simp only [Act.put, List.getElem_toArray, List.getElem_cons_succ, List.getElem_cons_zero, List.setIfInBounds_toArray, List.set_cons_zero, List.set_cons_succ]
  refine wpAnyH_take (i := 30) (v := ?_) rfl (by kernel_rfl) (by kernel_rfl) (by kernel_rfl) (fun _ _ _ h => h) (Or.inl ⟨by first | kernel_rfl | rfl, ?_⟩) (by assumption) ?_
  rotate_left
  · intro w hSw; (try dsimp only at hSw); (try go_split_ands); go_simp; first | done | with_reducible rfl
  try simp only [Act.put, List.getElem_toArray, List.getElem_cons_succ, List.getElem_cons_zero, List.setIfInBounds_toArray, List.set_cons_zero, List.set_cons_succ]
  refine wpAnyH_take (i := 31) (v := ?_) rfl (by kernel_rfl) (by kernel_rfl) (by kernel_rfl) (fun _ _ _ h => h) (Or.inl ⟨by first | kernel_rfl | rfl, ?_⟩) (by assumption) ?_
  rotate_left
  · intro w hSw; (try dsimp only at hSw); (try go_split_ands); go_simp; first | done | with_reducible rfl
  try simp only [Act.put, List.getElem_toArray, List.getElem_cons_succ, List.getElem_cons_zero, List.setIfInBounds_toArray, List.set_cons_zero, List.set_cons_succ]
  refine wpAnyH_take (i := 32) (v := ?_) rfl (by kernel_rfl) (by kernel_rfl) (by kernel_rfl) (fun _ _ _ h => h) (Or.inl ⟨by first | kernel_rfl | rfl, ?_⟩) (by assumption) ?_
  rotate_left
  · intro w hSw; (try dsimp only at hSw); (try go_split_ands); go_simp; first | done | with_reducible rfl
  try simp only [Act.put, List.getElem_toArray, List.getElem_cons_succ, List.getElem_cons_zero, List.setIfInBounds_toArray, List.set_cons_zero, List.set_cons_succ]
  refine wpAnyH_ready (rs := [33]) (by kernel_rfl) (by simp) ?_
  refine AllReadyH.cons rfl (fun K hK => ?_) AllReadyH.nil
  go_simp
  go_at_call 187
  refine Calls.mono (hsc _) ?_
  rintro e y1 ⟨rfl, rfl⟩
  go_wp2_with fail
  refine hK.out _ _ ?_ (fun hHeld => ?_)
  · exact ⟨x0, x1, x2, x5⟩
  clear hK K
  try simp only [Act.put, List.getElem_toArray, List.getElem_cons_succ, List.getElem_cons_zero, List.setIfInBounds_toArray, List.set_cons_zero, List.set_cons_succ]
  refine wpAnyH_take (i := 34) (v := ?_) rfl (by kernel_rfl) (by kernel_rfl) (by kernel_rfl) (fun _ _ _ h => h) (Or.inl ⟨by first | kernel_rfl | rfl, ?_⟩) (by assumption) ?_
  rotate_left
  · intro w hSw; (try dsimp only at hSw); (try go_split_ands); go_simp; first | done | with_reducible rfl
  try simp only [Act.put, List.getElem_toArray, List.getElem_cons_succ, List.getElem_cons_zero, List.setIfInBounds_toArray, List.set_cons_zero, List.set_cons_succ]
  refine wpAnyH_take (i := 35) (v := ?_) rfl (by kernel_rfl) (by kernel_rfl) (by kernel_rfl) (fun _ _ _ h => h) (Or.inl ⟨by first | kernel_rfl | rfl, ?_⟩) (by assumption) ?_
  rotate_left
  · intro w hSw; (try dsimp only at hSw); (try go_split_ands); go_simp; first | done | with_reducible rfl
  try simp only [Act.put, List.getElem_toArray, List.getElem_cons_succ, List.getElem_cons_zero, List.setIfInBounds_toArray, List.set_cons_zero, List.set_cons_succ]
  refine wpAnyH_done (by kernel_rfl) ?_ _
  refine NoPanic.normal ?_
  go_wp2
  go_ret
  exact ⟨rfl, grow_drew _⟩

set_option maxRecDepth 100000 in
theorem rcheckS {rv : Value} {σ : St} {w : World} {X : Nat → Prop} (h : RefS rv σ w X) (hf : FineS σ) (hw : σ.W = fmtW 600 4800) (hlo : LowS σ) :
    Calls Try.prog 193 #[rv] w fun e w' => e = .returned (.int .i64 0) ∧ Grow w w' := by
  obtain ⟨A, n, c, B, m, d, rfl⟩ := h.agg
  have hg0 : Grow w (w.alloc (.cells #[.slice A n c, .slice B m d] 67)) := (Below.refl _ _).alloc (Nat.le_refl _) _
  have hbx : (w.alloc (.cells #[.slice A n c, .slice B m d] 67)).heap[w.heap.size]? = some (.cells #[.slice A n c, .slice B m d] 67 (0, 0)) := World.alloc_heap_new w _
  have a0 : (w.alloc (.cells #[.slice A n c, .slice B m d] 67)).cell? ⟨w.heap.size, 0, none⟩ = some (.slice A n c) := by rw [cell_of_heap hbx]; rfl
  have a1 : (w.alloc (.cells #[.slice A n c, .slice B m d] 67)).cell? ⟨w.heap.size, 1, none⟩ = some (.slice B m d) := by rw [cell_of_heap hbx]; rfl
  have hc := rapply (h.grow hg0) hf
  clear h
  go_enter Try.func193, Try.ntmps193
  go_wp2_with fail
  refine hc.mono ?_
  rintro e w1 ⟨⟨A', c', rfl, hr⟩, hg1⟩
  clear hc a0 a1
  have hh := rheadS (c := c') hr (by rw [applyW_length]; exact hf.words) (by rw [applyW_low hlo (by omega), hw, fmt_word0]) (by rw [applyW_low hlo (by omega), hw, fmt_word1]) (by rw [applyW_low hlo (by omega), hw, fmt_word2]) (by rw [applyW_low hlo (by omega), hw, fmt_word5])
  go_wp2_with fail
  refine hh.mono ?_
  rintro e w2 ⟨rfl, hg2⟩
  clear hh
  go_wp2
  go_ret
  exact ⟨rfl, hg0.trans (hg1.trans hg2)⟩
end Go.Proofs.Ck
