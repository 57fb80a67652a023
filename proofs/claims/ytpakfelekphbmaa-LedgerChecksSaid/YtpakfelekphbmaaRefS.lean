/- The document's clients, word for word. -/
import Derived.Test.YtpakfelekphbmaaClientS
import Derived.Test.YtpakfelekphbmaaRef8
namespace Go.Proofs.Ck
open Go Go.RowKit

theorem RefS.grow {rv : Value} {σ : St} {w w' : World} {X : Nat → Prop} (h : RefS rv σ w X) (hg : Grow w w') : RefS rv σ w' X := stable_refS _ _ _ _ (Next.of_grow hg) h
theorem RefS.agg {rv : Value} {σ : St} {w : World} {X : Nat → Prop} (h : RefS rv σ w X) : ∃ A n c B m d, rv = .agg #[.slice A n c, .slice B m d] := by
  obtain ⟨A, c, B, d, h1, _⟩ := h
  exact ⟨A, _, c, B, _, d, h1⟩
/-- Words that may be thought of over a segment of 4800 bytes. -/
structure Fine (σ : St) : Prop where
  words : σ.W.length = 600
  few : σ.p.length ≤ 600
  nodup : (σ.p.map (·.1)).Nodup
theorem RefS.ref {rv : Value} {σ : St} {w : World} {X : Nat → Prop} (h : RefS rv σ w X) (hf : Fine σ) : RefF rv σ.load w X := by
  obtain ⟨A, c, B, d, h1, h2, h3, h4⟩ := h
  exact ⟨σ, A, c, B, d, h1, h2, h3, h4, hf.words, hf.few, hf.nodup, rfl⟩
theorem Ctx.fine {base : Nat} {M0 : Nat → Prop} {w0 w : World} {v : Value} {σ : St} {bx : List Bx} {K : World → (Nat → Prop) → Prop} (h : Ctx base M0 w0 w v σ bx K) (hW : σ.W.length = 600) : Fine σ := by
  obtain ⟨M, hM⟩ := h.tx
  exact ⟨hW, by have := puts_few hM; omega, hM.nodup⟩

/-- The document's store. -/
theorem rstoreS {rv : Value} {σ : St} {w : World} {X : Nat → Prop} (h : RefS rv σ w X) (hX : ∀ b, X b → b < w.heap.size) (hf : Fine σ) (off x : Nat) (ho : off < 18446744073709551616) :
    Calls Try.prog 156 #[rv, .int .u64 (off : Int), .int .u64 (x : Int)] w fun e w' => ∃ rv', e = .returned rv' ∧ RefS rv' (σ.store off x) w' X ∧ Grow w w' := by
  obtain ⟨A, c, B, d, rfl, h2, h3, h4⟩ := h
  refine (rtx_store h2 h3 h4 off x ho (by rw [hf.words]; omega) (by have := hf.few; omega) hf.nodup).mono ?_
  rintro e w' ⟨⟨B', d', rfl, k1, k2⟩, hg⟩
  refine ⟨_, rfl, ⟨A, c, B', d', by rw [store_W], ?_, k2.mono fun b _ hb hx => ?_, k1⟩, hg⟩
  · rw [store_W]; exact h2.grow hg
  · rcases hb with hb | hb
    · exact hb hx
    · have := hX b hx; omega

set_option maxRecDepth 100000 in
theorem rsetS {rv : Value} {σ : St} {w : World} {X : Nat → Prop} (h : RefS rv σ w X) (hX : ∀ b, X b → b < w.heap.size) (hf : Fine σ) (c : Int) (what x : Nat) (h8 : what % 8 = 0) (hw : what < 416) :
    Calls Try.prog 119 #[rv, .int .i64 c, .int .u64 (what : Int), .int .u64 (x : Int)] w fun e w' => ∃ rv', e = .returned rv' ∧ RefS rv' (setS σ c what x) w' X ∧ Grow w w' := by
  obtain ⟨A, n, c', B, m, d, rfl⟩ := h.agg
  have hga : Grow w ((w.alloc (.cells #[.slice A n c', .slice B m d] 67)).alloc (.cells #[.slice none 0 0, .slice none 0 0] 67)) := ((Below.refl _ _).alloc (Nat.le_refl _) _).alloc (by simp) _
  have hB : ((w.alloc (.cells #[.slice A n c', .slice B m d] 67)).alloc (.cells #[.slice none 0 0, .slice none 0 0] 67)).heap[w.heap.size]? = some (.cells #[.slice A n c', .slice B m d] 67 (0, 0)) := (Below.heap_alloc _ _ _ (by simp)).trans (World.alloc_heap_new w _)
  have hT : ((w.alloc (.cells #[.slice A n c', .slice B m d] 67)).alloc (.cells #[.slice none 0 0, .slice none 0 0] 67)).heap[w.heap.size + 1]? = some (.cells #[.slice none 0 0, .slice none 0 0] 67 (0, 0)) := by
    have := World.alloc_heap_new (w.alloc (.cells #[.slice A n c', .slice B m d] 67)) (.cells #[.slice none 0 0, .slice none 0 0] 67)
    rwa [World.size_alloc] at this
  have h1 : RefS (.agg #[.slice A n c', .slice B m d]) σ _ (fun b => X b ∨ b = w.heap.size + 1) := stable_refS _ _ _ _ ⟨Only.of_below hga, fun b hb => by
    rcases hb with hb | hb
    · exact .inl hb
    · exact .inr (by omega)⟩ h
  have hX1 : ∀ b, (X b ∨ b = w.heap.size + 1) → b < ((w.alloc (.cells #[.slice A n c', .slice B m d] 67)).alloc (.cells #[.slice none 0 0, .slice none 0 0] 67)).heap.size := fun b hb => by
    rcases hb with hb | hb
    · exact Nat.lt_of_lt_of_le (hX b hb) hga.size
    · rw [hb]; exact lt_of_heap hT
  unfold setS
  by_cases hc : 0 ≤ c ∧ c < 8
  · rw [if_pos hc]
    obtain ⟨C, rfl⟩ := Int.eq_ofNat_of_zero_le hc.1
    rw [show (C : Int).toNat = C from rfl]
    have hw1 := fun w => rword_ok w C what (by omega) h8 hw
    have hst := rstoreS h1 hX1 hf (64 + 416 * C + what) x (by omega)
    generalize σ.store (64 + 416 * C + what) x = σ' at *
    generalize 64 + 416 * C + what = o at *
    clear h h1 hX1
    go_enter Try.func119, Try.ntmps119
    go_wp2_with fail
    generalize (w.alloc (.cells #[.slice A n c', .slice B m d] 67)).alloc (.cells #[.slice none 0 0, .slice none 0 0] 67) = w1 at *
    refine (hw1 _).mono ?_
    rintro e w' ⟨rfl, rfl⟩
    have b0 : w1.cell? ⟨w.heap.size, 0, none⟩ = some (.slice A n c') := by rw [cell_of_heap hB]; rfl
    have b1 : w1.cell? ⟨w.heap.size, 1, none⟩ = some (.slice B m d) := by rw [cell_of_heap hB]; rfl
    go_wp2_with fail
    refine hst.mono ?_
    rintro e w2 ⟨rv', rfl, hr, hg⟩
    obtain ⟨A2, n2, c2, B2, m2, d2, rfl⟩ := hr.agg
    have hT2 := hg.heap hT
    have hg2 := hga.trans hg
    clear hw1 hst hB hT hg hga b0 b1
    have t0 : w2.cell? ⟨w.heap.size + 1, 0, none⟩ = some (.slice none 0 0) := by rw [cell_of_heap hT2]; rfl
    have t1 : w2.cell? ⟨w.heap.size + 1, 1, none⟩ = some (.slice none 0 0) := by rw [cell_of_heap hT2]; rfl
    have f0 := frozen_of_heap hT2 0
    have f1 := frozen_of_heap hT2 1
    go_wp2
    have ho : Only (fun b => b = w.heap.size + 1) w2 ((w2.setCell ⟨w.heap.size + 1, 0, none⟩ (.slice A2 n2 c2)).setCell ⟨w.heap.size + 1, 1, none⟩ (.slice B2 m2 d2)) :=
      Only.setCell (S := fun b => b = w.heap.size + 1) (p := ⟨w.heap.size + 1, 1, none⟩) (Only.setCell (S := fun b => b = w.heap.size + 1) (p := ⟨w.heap.size + 1, 0, none⟩) (Only.refl _ _) rfl _) rfl _
    refine ret_tx (g := w.heap.size + 1) rfl rfl (heap_setCell_row (heap_setCell_row hT2 (i := 0) _) (i := 1) _) rfl ⟨_, rfl, stable_refS _ _ _ _ ⟨ho.mono fun k _ hk => .inr hk, fun b hb => .inl (.inl hb)⟩ hr, Below.trans hg2 (ho.below hg2.size (fun b hb => by omega))⟩
  · rw [if_neg hc]
    have hw1 := fun w => rword_bad w c what (fun hh => hc ⟨hh.1, hh.2.1⟩)
    clear hc
    go_enter Try.func119, Try.ntmps119
    go_wp2_with fail
    generalize (w.alloc (.cells #[.slice A n c', .slice B m d] 67)).alloc (.cells #[.slice none 0 0, .slice none 0 0] 67) = w1 at *
    refine (hw1 _).mono ?_
    rintro e w' ⟨rfl, rfl⟩
    have b0 : w1.cell? ⟨w.heap.size, 0, none⟩ = some (.slice A n c') := by rw [cell_of_heap hB]; rfl
    have b1 : w1.cell? ⟨w.heap.size, 1, none⟩ = some (.slice B m d) := by rw [cell_of_heap hB]; rfl
    have t0 : w1.cell? ⟨w.heap.size + 1, 0, none⟩ = some (.slice none 0 0) := by rw [cell_of_heap hT]; rfl
    have t1 : w1.cell? ⟨w.heap.size + 1, 1, none⟩ = some (.slice none 0 0) := by rw [cell_of_heap hT]; rfl
    have f0 := frozen_of_heap hT 0
    have f1 := frozen_of_heap hT 1
    go_wp2
    have ho : Only (fun b => b = w.heap.size + 1) w1 ((w1.setCell ⟨w.heap.size + 1, 0, none⟩ (.slice A n c')).setCell ⟨w.heap.size + 1, 1, none⟩ (.slice B m d)) :=
      Only.setCell (S := fun b => b = w.heap.size + 1) (p := ⟨w.heap.size + 1, 1, none⟩) (Only.setCell (S := fun b => b = w.heap.size + 1) (p := ⟨w.heap.size + 1, 0, none⟩) (Only.refl _ _) rfl _) rfl _
    exact ret_tx (g := w.heap.size + 1) rfl rfl (heap_setCell_row (heap_setCell_row hT (i := 0) _) (i := 1) _) rfl ⟨_, rfl, stable_refS _ _ _ _ ⟨ho.mono fun k _ hk => .inr hk, fun b hb => .inl (.inl hb)⟩ h1, Below.trans hga (ho.below hga.size (fun b hb => by omega))⟩
end Go.Proofs.Ck
