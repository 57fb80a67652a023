/- The document's clients, word for word: a deed. -/
import Derived.Test.YtpakfelekphbmaaRefS
namespace Go.Proofs.Ck
open Go Go.RowKit

/-- A pair of lists, laid into the box that holds the answer. -/
theorem fin67 {w w2 : World} {q : Nat} {X : Nat → Prop} {σ : St} {a b u0 u1 : Value} (hT : w2.heap[q]? = some (.cells #[u0, u1] 67 (0, 0))) (hr : RefS (.agg #[a, b]) σ w2 (fun x => X x ∨ x = q)) (hg : Grow w w2) (hq : w.heap.size ≤ q) :
    ((w2.setCell ⟨q, 0, none⟩ a).setCell ⟨q, 1, none⟩ b).heap[q]? = some (.cells #[a, b] 67 (0, 0)) ∧ RefS (.agg #[a, b]) σ ((w2.setCell ⟨q, 0, none⟩ a).setCell ⟨q, 1, none⟩ b) X ∧ Grow w ((w2.setCell ⟨q, 0, none⟩ a).setCell ⟨q, 1, none⟩ b) := by
  have ho : Only (fun x => x = q) w2 ((w2.setCell ⟨q, 0, none⟩ a).setCell ⟨q, 1, none⟩ b) :=
    Only.setCell (S := fun x => x = q) (p := ⟨q, 1, none⟩) (Only.setCell (S := fun x => x = q) (p := ⟨q, 0, none⟩) (Only.refl _ _) rfl _) rfl _
  exact ⟨heap_setCell_row (heap_setCell_row hT (i := 0) _) (i := 1) _, stable_refS _ _ _ _ ⟨ho.mono fun k _ hk => .inr hk, fun b hb => .inl (.inl hb)⟩ hr, Below.trans hg (ho.below hg.size (fun b hb => by omega))⟩
theorem results_cell_tmp67 {fn : Func} {R : Ending → World → Prop} {tmps : Array Value} {p u : Tmp} {W : World} {g : Nat} {cs : Array Value} {fr : Nat × Nat} {x : Value} (hf : fn.results = #[.cell p 67, .tmp u])
    (hp : tmps.getD p undef = .pointer (some ⟨g, 0, none⟩)) (hu : tmps.getD u undef = x) (hg : W.heap[g]? = some (.cells cs 67 fr)) (h2 : cs.size = 2) (hR : R (.returned (.tuple #[.agg cs, x])) W) :
    bodyPost Try.prog fn R .ret ⟨tmps, []⟩ W := by
  refine bodyPost_ret (v := .tuple #[.agg cs, x]) ?_ rfl hR
  have hp' : tmps[p]?.getD undef = .pointer (some ⟨g, 0, none⟩) := by simpa using hp
  have hu' : tmps[u]?.getD undef = x := by simpa using hu
  rw [results_cell_tmp hf]
  simp [hp', hu', asAddr, Result.andThen, run_loadVar_row W g 67 67 cs fr _ hg Try.underlying67 rfl (info67.trans (by rw [h2]))]

/-- What the document's deed answers. -/
def RDid (w : World) (X : Nat → Prop) (σ : St) (E : Nat) (e : Ending) (w' : World) : Prop := ∃ rv', e = .returned (.tuple #[rv', .int .i64 (E : Int)]) ∧ RefS rv' σ w' X ∧ Grow w w'

set_option maxRecDepth 100000 in
set_option maxHeartbeats 1000000 in
theorem rdoS {rv : Value} {σ : St} {w : World} {X : Nat → Prop} (h : RefS rv σ w X) (hX : ∀ b, X b → b < w.heap.size) (hf : Fine σ) (what c : Int) (off : Nat) (hw : 1 ≤ what ∧ what ≤ 4) :
    Calls Try.prog 120 #[rv, .int .i64 what, .int .i64 c] w (RDid w X (doS σ what c off) (doE σ.load what c)) := by
  obtain ⟨A, n, c', B, m, d, rfl⟩ := h.agg
  have hga : Grow w ((w.alloc (.cells #[.slice A n c', .slice B m d] 67)).alloc (.cells #[.slice none 0 0, .slice none 0 0] 67)) := ((Below.refl _ _).alloc (Nat.le_refl _) _).alloc (by simp) _
  have hB : ((w.alloc (.cells #[.slice A n c', .slice B m d] 67)).alloc (.cells #[.slice none 0 0, .slice none 0 0] 67)).heap[w.heap.size]? = some (.cells #[.slice A n c', .slice B m d] 67 (0, 0)) := (Below.heap_alloc _ _ _ (by simp)).trans (World.alloc_heap_new w _)
  have hT : ((w.alloc (.cells #[.slice A n c', .slice B m d] 67)).alloc (.cells #[.slice none 0 0, .slice none 0 0] 67)).heap[w.heap.size + 1]? = some (.cells #[.slice none 0 0, .slice none 0 0] 67 (0, 0)) := by
    have := World.alloc_heap_new (w.alloc (.cells #[.slice A n c', .slice B m d] 67)) (.cells #[.slice none 0 0, .slice none 0 0] 67)
    rwa [World.size_alloc] at this
  have h1 : RefS (.agg #[.slice A n c', .slice B m d]) σ _ (fun b => X b ∨ b = w.heap.size + 1) := stable_refS _ _ _ _ ⟨Only.of_below hga, fun b hb => by
    rcases hb with hb | hb
    · exact .inl hb
    · exact .inr (by omega)⟩ h
  have hX1 : ∀ b, (X b ∨ b = w.heap.size + 1) → b < ((w.alloc (.cells #[.slice A n c', .slice B m d] 67)).alloc (.cells #[.slice none 0 0, .slice none 0 0] 67)).heap.size := fun b hb => by
    rcases hb with hb | hb
    · exact Nat.lt_of_lt_of_le (hX b hb) hga.size
    · rw [hb]; exact lt_of_heap hT
  have h0r := h
  clear h hX
  by_cases hc : 0 ≤ c ∧ c < 8
  · have hgt := fun (w2 : World) (hg2 : Grow ((w.alloc (.cells #[.slice A n c', .slice B m d] 67)).alloc (.cells #[.slice none 0 0, .slice none 0 0] 67)) w2) => rget_any ((h1.grow hg2).ref hf) c 0 rfl (by omega)
    have hgt8 := fun (w2 : World) (hg2 : Grow ((w.alloc (.cells #[.slice A n c', .slice B m d] 67)).alloc (.cells #[.slice none 0 0, .slice none 0 0] 67)) w2) => rget_any ((h1.grow hg2).ref hf) c 8 rfl (by omega)
    have g1 : decide (c < 0) = false := decide_eq_false (by omega)
    have g2 : decide (7 < c) = false := decide_eq_false (by omega)
    have hse : setE c = 0 := if_pos hc
    rcases (show what = 1 ∨ what = 2 ∨ what = 3 ∨ what = 4 by omega) with rfl | rfl | rfl | rfl
    · have eE : doE σ.load 1 c = if getF σ.load c 0 = 0 then 0 else if getF σ.load c 0 = 1 then 7 else 13 := by show attE _ _ = _; unfold attE; rw [hse]
      have eS : doS σ 1 c off = if getF σ.load c 0 = 0 then setS σ c 0 1 else σ := rfl
      rw [eE, eS]
      clear eE eS hse hgt8 hc
      generalize getF σ.load c 0 = x at *
      by_cases h0 : x = 0
      · subst h0
        rw [if_pos rfl, if_pos rfl]
        go_enter Try.func120, Try.ntmps120
        go_wp2_with fail
        generalize (w.alloc (.cells #[.slice A n c', .slice B m d] 67)).alloc (.cells #[.slice none 0 0, .slice none 0 0] 67) = w1 at *
        refine (show Calls _ _ #[_, _, .int .u64 0] _ _ from hgt w1 (Below.refl _ _)).mono ?_
        rintro e w2 ⟨rfl, hg2⟩
        have hB2 := hg2.heap hB
        have hT2 := hg2.heap hT
        have h2 := h1.grow hg2
        have hX2 := fun b hb => Nat.lt_of_lt_of_le (hX1 b hb) hg2.size
        have hgf := hga.trans hg2
        clear hgt hB hT h1 hX1
        have b0 : w2.cell? ⟨w.heap.size, 0, none⟩ = some (.slice A n c') := by rw [cell_of_heap hB2]; rfl
        have b1 : w2.cell? ⟨w.heap.size, 1, none⟩ = some (.slice B m d) := by rw [cell_of_heap hB2]; rfl
        have t0 : w2.cell? ⟨w.heap.size + 1, 0, none⟩ = some (.slice none 0 0) := by rw [cell_of_heap hT2]; rfl
        have t1 : w2.cell? ⟨w.heap.size + 1, 1, none⟩ = some (.slice none 0 0) := by rw [cell_of_heap hT2]; rfl
        have f0 := frozen_of_heap hT2 0
        have f1 := frozen_of_heap hT2 1
        have hst := rsetS h2 hX2 hf c 0 1 rfl (by omega)
        go_wp2_with fail
        refine (show Calls _ _ #[_, _, .int .u64 0, .int .u64 1] _ _ from hst).mono ?_
        rintro e w5 ⟨rv', rfl, hr, hg5⟩
        obtain ⟨A5, n5, c5, B5, m5, d5, rfl⟩ := hr.agg
        have hT5 := hg5.heap hT2
        have hgz := hgf.trans hg5
        clear hst b0 b1 t0 t1 f0 f1
        have t0 : w5.cell? ⟨w.heap.size + 1, 0, none⟩ = some (.slice none 0 0) := by rw [cell_of_heap hT5]; rfl
        have t1 : w5.cell? ⟨w.heap.size + 1, 1, none⟩ = some (.slice none 0 0) := by rw [cell_of_heap hT5]; rfl
        have f0 := frozen_of_heap hT5 0
        have f1 := frozen_of_heap hT5 1
        obtain ⟨r1, r2, r3⟩ := fin67 hT5 hr hgz (show w.heap.size ≤ w.heap.size + 1 by omega)
        have R1 := Lib.hid r1
        clear r1
        go_wp2
        exact results_cell_tmp67 (g := w.heap.size + 1) rfl rfl rfl R1.out rfl ⟨_, rfl, r2, r3⟩
      · rw [if_neg h0, if_neg h0]
        have q0 : ((x : Int) != 0) = true := by rw [bne_iff_ne]; omega
        by_cases h1' : x = 1
        · subst h1'
          rw [if_pos rfl]
          clear h0 q0
          go_enter Try.func120, Try.ntmps120
          go_wp2_with fail
          generalize (w.alloc (.cells #[.slice A n c', .slice B m d] 67)).alloc (.cells #[.slice none 0 0, .slice none 0 0] 67) = w1 at *
          refine (show Calls _ _ #[_, _, .int .u64 0] _ _ from hgt w1 (Below.refl _ _)).mono ?_
          rintro e w2 ⟨rfl, hg2⟩
          have hB2 := hg2.heap hB
          have hT2 := hg2.heap hT
          have h2 := h1.grow hg2
          have hX2 := fun b hb => Nat.lt_of_lt_of_le (hX1 b hb) hg2.size
          have hgf := hga.trans hg2
          clear hgt hB hT h1 hX1
          have b0 : w2.cell? ⟨w.heap.size, 0, none⟩ = some (.slice A n c') := by rw [cell_of_heap hB2]; rfl
          have b1 : w2.cell? ⟨w.heap.size, 1, none⟩ = some (.slice B m d) := by rw [cell_of_heap hB2]; rfl
          have t0 : w2.cell? ⟨w.heap.size + 1, 0, none⟩ = some (.slice none 0 0) := by rw [cell_of_heap hT2]; rfl
          have t1 : w2.cell? ⟨w.heap.size + 1, 1, none⟩ = some (.slice none 0 0) := by rw [cell_of_heap hT2]; rfl
          have f0 := frozen_of_heap hT2 0
          have f1 := frozen_of_heap hT2 1
          obtain ⟨r1, r2, r3⟩ := fin67 hT2 h2 hgf (show w.heap.size ≤ w.heap.size + 1 by omega)
          have R1 := Lib.hid r1
          clear r1
          go_wp2
          exact results_cell_tmp67 (g := w.heap.size + 1) rfl rfl rfl R1.out rfl ⟨_, rfl, r2, r3⟩
        · rw [if_neg h1']
          have q1 : ((x : Int) == 1) = false := by rw [beq_eq_false_iff_ne]; omega
          clear h0 h1'
          go_enter Try.func120, Try.ntmps120
          go_wp2_with fail
          generalize (w.alloc (.cells #[.slice A n c', .slice B m d] 67)).alloc (.cells #[.slice none 0 0, .slice none 0 0] 67) = w1 at *
          refine (show Calls _ _ #[_, _, .int .u64 0] _ _ from hgt w1 (Below.refl _ _)).mono ?_
          rintro e w2 ⟨rfl, hg2⟩
          have hB2 := hg2.heap hB
          have hT2 := hg2.heap hT
          have h2 := h1.grow hg2
          have hX2 := fun b hb => Nat.lt_of_lt_of_le (hX1 b hb) hg2.size
          have hgf := hga.trans hg2
          clear hgt hB hT h1 hX1
          have b0 : w2.cell? ⟨w.heap.size, 0, none⟩ = some (.slice A n c') := by rw [cell_of_heap hB2]; rfl
          have b1 : w2.cell? ⟨w.heap.size, 1, none⟩ = some (.slice B m d) := by rw [cell_of_heap hB2]; rfl
          have t0 : w2.cell? ⟨w.heap.size + 1, 0, none⟩ = some (.slice none 0 0) := by rw [cell_of_heap hT2]; rfl
          have t1 : w2.cell? ⟨w.heap.size + 1, 1, none⟩ = some (.slice none 0 0) := by rw [cell_of_heap hT2]; rfl
          have f0 := frozen_of_heap hT2 0
          have f1 := frozen_of_heap hT2 1
          obtain ⟨r1, r2, r3⟩ := fin67 hT2 h2 hgf (show w.heap.size ≤ w.heap.size + 1 by omega)
          have R1 := Lib.hid r1
          clear r1
          go_wp2
          exact results_cell_tmp67 (g := w.heap.size + 1) rfl rfl rfl R1.out rfl ⟨_, rfl, r2, r3⟩
    · have eE : doE σ.load 2 c = if getF σ.load c 0 ≠ 1 then 10 else if getF σ.load c 8 ≠ 0 then 11 else 0 := by show detE _ _ = _; unfold detE; rw [if_pos hc]
      have eS : doS σ 2 c off = if getF σ.load c 0 = 1 ∧ getF σ.load c 8 = 0 then setS σ c 0 0 else σ := by
        show detS _ _ = _
        unfold detS
        by_cases hh : getF σ.load c 0 = 1 ∧ getF σ.load c 8 = 0
        · rw [if_pos ⟨hc.1, hc.2, hh.1, hh.2⟩, if_pos hh]
        · rw [if_neg (fun k => hh ⟨k.2.2.1, k.2.2.2⟩), if_neg hh]
      rw [eE, eS]
      clear eE eS hse hc
      generalize getF σ.load c 0 = x at *
      generalize getF σ.load c 8 = y at *
      by_cases h0 : x = 1
      · subst h0
        by_cases h8 : y = 0
        · subst h8
          rw [if_pos ⟨rfl, rfl⟩, if_neg (by omega), if_neg (by omega)]
          go_enter Try.func120, Try.ntmps120
          go_wp2_with fail
          generalize (w.alloc (.cells #[.slice A n c', .slice B m d] 67)).alloc (.cells #[.slice none 0 0, .slice none 0 0] 67) = w1 at *
          refine (show Calls _ _ #[_, _, .int .u64 0] _ _ from hgt w1 (Below.refl _ _)).mono ?_
          rintro e w2 ⟨rfl, hg2⟩
          have hB2 := hg2.heap hB
          have hT2 := hg2.heap hT
          have h2 := h1.grow hg2
          have hX2 := fun b hb => Nat.lt_of_lt_of_le (hX1 b hb) hg2.size
          have hgf := hga.trans hg2
          clear hgt hB hT h1 hX1
          have b0 : w2.cell? ⟨w.heap.size, 0, none⟩ = some (.slice A n c') := by rw [cell_of_heap hB2]; rfl
          have b1 : w2.cell? ⟨w.heap.size, 1, none⟩ = some (.slice B m d) := by rw [cell_of_heap hB2]; rfl
          have t0 : w2.cell? ⟨w.heap.size + 1, 0, none⟩ = some (.slice none 0 0) := by rw [cell_of_heap hT2]; rfl
          have t1 : w2.cell? ⟨w.heap.size + 1, 1, none⟩ = some (.slice none 0 0) := by rw [cell_of_heap hT2]; rfl
          have f0 := frozen_of_heap hT2 0
          have f1 := frozen_of_heap hT2 1
          go_wp2_with fail
          refine (show Calls _ _ #[_, _, .int .u64 8] _ _ from hgt8 w2 hg2).mono ?_
          rintro e w3 ⟨rfl, hg3⟩
          have hB3 := hg3.heap hB2
          have hT3 := hg3.heap hT2
          have h3 := h2.grow hg3
          have hX3 := fun b hb => Nat.lt_of_lt_of_le (hX2 b hb) hg3.size
          have hgf := hgf.trans hg3
          clear hgt8 b0 b1 t0 t1 f0 f1 hB2 hT2 h2 hX2
          have b0 : w3.cell? ⟨w.heap.size, 0, none⟩ = some (.slice A n c') := by rw [cell_of_heap hB3]; rfl
          have b1 : w3.cell? ⟨w.heap.size, 1, none⟩ = some (.slice B m d) := by rw [cell_of_heap hB3]; rfl
          have t0 : w3.cell? ⟨w.heap.size + 1, 0, none⟩ = some (.slice none 0 0) := by rw [cell_of_heap hT3]; rfl
          have t1 : w3.cell? ⟨w.heap.size + 1, 1, none⟩ = some (.slice none 0 0) := by rw [cell_of_heap hT3]; rfl
          have f0 := frozen_of_heap hT3 0
          have f1 := frozen_of_heap hT3 1
          have hst := rsetS h3 hX3 hf c 0 0 rfl (by omega)
          go_wp2_with fail
          refine (show Calls _ _ #[_, _, .int .u64 0, .int .u64 0] _ _ from hst).mono ?_
          rintro e w5 ⟨rv', rfl, hr, hg5⟩
          obtain ⟨A5, n5, c5, B5, m5, d5, rfl⟩ := hr.agg
          have hT5 := hg5.heap hT3
          have hgz := hgf.trans hg5
          clear hst b0 b1 t0 t1 f0 f1
          have t0 : w5.cell? ⟨w.heap.size + 1, 0, none⟩ = some (.slice none 0 0) := by rw [cell_of_heap hT5]; rfl
          have t1 : w5.cell? ⟨w.heap.size + 1, 1, none⟩ = some (.slice none 0 0) := by rw [cell_of_heap hT5]; rfl
          have f0 := frozen_of_heap hT5 0
          have f1 := frozen_of_heap hT5 1
          obtain ⟨r1, r2, r3⟩ := fin67 hT5 hr hgz (show w.heap.size ≤ w.heap.size + 1 by omega)
          have R1 := Lib.hid r1
          clear r1
          go_wp2
          exact results_cell_tmp67 (g := w.heap.size + 1) rfl rfl rfl R1.out rfl ⟨_, rfl, r2, r3⟩
        · rw [if_neg (fun k => h8 k.2), if_neg (by omega), if_pos h8]
          have q8 : ((y : Int) != 0) = true := by rw [bne_iff_ne]; omega
          clear h8
          go_enter Try.func120, Try.ntmps120
          go_wp2_with fail
          generalize (w.alloc (.cells #[.slice A n c', .slice B m d] 67)).alloc (.cells #[.slice none 0 0, .slice none 0 0] 67) = w1 at *
          refine (show Calls _ _ #[_, _, .int .u64 0] _ _ from hgt w1 (Below.refl _ _)).mono ?_
          rintro e w2 ⟨rfl, hg2⟩
          have hB2 := hg2.heap hB
          have hT2 := hg2.heap hT
          have h2 := h1.grow hg2
          have hX2 := fun b hb => Nat.lt_of_lt_of_le (hX1 b hb) hg2.size
          have hgf := hga.trans hg2
          clear hgt hB hT h1 hX1
          have b0 : w2.cell? ⟨w.heap.size, 0, none⟩ = some (.slice A n c') := by rw [cell_of_heap hB2]; rfl
          have b1 : w2.cell? ⟨w.heap.size, 1, none⟩ = some (.slice B m d) := by rw [cell_of_heap hB2]; rfl
          have t0 : w2.cell? ⟨w.heap.size + 1, 0, none⟩ = some (.slice none 0 0) := by rw [cell_of_heap hT2]; rfl
          have t1 : w2.cell? ⟨w.heap.size + 1, 1, none⟩ = some (.slice none 0 0) := by rw [cell_of_heap hT2]; rfl
          have f0 := frozen_of_heap hT2 0
          have f1 := frozen_of_heap hT2 1
          go_wp2_with fail
          refine (show Calls _ _ #[_, _, .int .u64 8] _ _ from hgt8 w2 hg2).mono ?_
          rintro e w3 ⟨rfl, hg3⟩
          have hB3 := hg3.heap hB2
          have hT3 := hg3.heap hT2
          have h3 := h2.grow hg3
          have hgf := hgf.trans hg3
          clear hgt8 b0 b1 t0 t1 f0 f1 hB2 hT2 h2 hX2
          have b0 : w3.cell? ⟨w.heap.size, 0, none⟩ = some (.slice A n c') := by rw [cell_of_heap hB3]; rfl
          have b1 : w3.cell? ⟨w.heap.size, 1, none⟩ = some (.slice B m d) := by rw [cell_of_heap hB3]; rfl
          have t0 : w3.cell? ⟨w.heap.size + 1, 0, none⟩ = some (.slice none 0 0) := by rw [cell_of_heap hT3]; rfl
          have t1 : w3.cell? ⟨w.heap.size + 1, 1, none⟩ = some (.slice none 0 0) := by rw [cell_of_heap hT3]; rfl
          have f0 := frozen_of_heap hT3 0
          have f1 := frozen_of_heap hT3 1
          obtain ⟨r1, r2, r3⟩ := fin67 hT3 h3 hgf (show w.heap.size ≤ w.heap.size + 1 by omega)
          have R1 := Lib.hid r1
          clear r1
          go_wp2
          exact results_cell_tmp67 (g := w.heap.size + 1) rfl rfl rfl R1.out rfl ⟨_, rfl, r2, r3⟩
      · rw [if_neg (fun k => h0 k.1), if_pos h0]
        have q1 : ((x : Int) != 1) = true := by rw [bne_iff_ne]; omega
        clear h0 hgt8
        go_enter Try.func120, Try.ntmps120
        go_wp2_with fail
        generalize (w.alloc (.cells #[.slice A n c', .slice B m d] 67)).alloc (.cells #[.slice none 0 0, .slice none 0 0] 67) = w1 at *
        refine (show Calls _ _ #[_, _, .int .u64 0] _ _ from hgt w1 (Below.refl _ _)).mono ?_
        rintro e w2 ⟨rfl, hg2⟩
        have hB2 := hg2.heap hB
        have hT2 := hg2.heap hT
        have h2 := h1.grow hg2
        have hX2 := fun b hb => Nat.lt_of_lt_of_le (hX1 b hb) hg2.size
        have hgf := hga.trans hg2
        clear hgt hB hT h1 hX1
        have b0 : w2.cell? ⟨w.heap.size, 0, none⟩ = some (.slice A n c') := by rw [cell_of_heap hB2]; rfl
        have b1 : w2.cell? ⟨w.heap.size, 1, none⟩ = some (.slice B m d) := by rw [cell_of_heap hB2]; rfl
        have t0 : w2.cell? ⟨w.heap.size + 1, 0, none⟩ = some (.slice none 0 0) := by rw [cell_of_heap hT2]; rfl
        have t1 : w2.cell? ⟨w.heap.size + 1, 1, none⟩ = some (.slice none 0 0) := by rw [cell_of_heap hT2]; rfl
        have f0 := frozen_of_heap hT2 0
        have f1 := frozen_of_heap hT2 1
        obtain ⟨r1, r2, r3⟩ := fin67 hT2 h2 hgf (show w.heap.size ≤ w.heap.size + 1 by omega)
        have R1 := Lib.hid r1
        clear r1
        go_wp2
        exact results_cell_tmp67 (g := w.heap.size + 1) rfl rfl rfl R1.out rfl ⟨_, rfl, r2, r3⟩
    · have eE : doE σ.load 3 c = 0 := hse
      have eS : doS σ 3 c off = setS σ c 0 2 := rfl
      rw [eE, eS]
      clear eE eS hse hgt8 hc
      generalize getF σ.load c 0 = x at *
      go_enter Try.func120, Try.ntmps120
      go_wp2_with fail
      generalize (w.alloc (.cells #[.slice A n c', .slice B m d] 67)).alloc (.cells #[.slice none 0 0, .slice none 0 0] 67) = w1 at *
      refine (show Calls _ _ #[_, _, .int .u64 0] _ _ from hgt w1 (Below.refl _ _)).mono ?_
      rintro e w2 ⟨rfl, hg2⟩
      have hB2 := hg2.heap hB
      have hT2 := hg2.heap hT
      have h2 := h1.grow hg2
      have hX2 := fun b hb => Nat.lt_of_lt_of_le (hX1 b hb) hg2.size
      have hgf := hga.trans hg2
      clear hgt hB hT h1 hX1
      have b0 : w2.cell? ⟨w.heap.size, 0, none⟩ = some (.slice A n c') := by rw [cell_of_heap hB2]; rfl
      have b1 : w2.cell? ⟨w.heap.size, 1, none⟩ = some (.slice B m d) := by rw [cell_of_heap hB2]; rfl
      have t0 : w2.cell? ⟨w.heap.size + 1, 0, none⟩ = some (.slice none 0 0) := by rw [cell_of_heap hT2]; rfl
      have t1 : w2.cell? ⟨w.heap.size + 1, 1, none⟩ = some (.slice none 0 0) := by rw [cell_of_heap hT2]; rfl
      have f0 := frozen_of_heap hT2 0
      have f1 := frozen_of_heap hT2 1
      have hst := rsetS h2 hX2 hf c 0 2 rfl (by omega)
      go_wp2_with fail
      refine (show Calls _ _ #[_, _, .int .u64 0, .int .u64 2] _ _ from hst).mono ?_
      rintro e w5 ⟨rv', rfl, hr, hg5⟩
      obtain ⟨A5, n5, c5, B5, m5, d5, rfl⟩ := hr.agg
      have hT5 := hg5.heap hT2
      have hgz := hgf.trans hg5
      clear hst b0 b1 t0 t1 f0 f1
      have t0 : w5.cell? ⟨w.heap.size + 1, 0, none⟩ = some (.slice none 0 0) := by rw [cell_of_heap hT5]; rfl
      have t1 : w5.cell? ⟨w.heap.size + 1, 1, none⟩ = some (.slice none 0 0) := by rw [cell_of_heap hT5]; rfl
      have f0 := frozen_of_heap hT5 0
      have f1 := frozen_of_heap hT5 1
      obtain ⟨r1, r2, r3⟩ := fin67 hT5 hr hgz (show w.heap.size ≤ w.heap.size + 1 by omega)
      have R1 := Lib.hid r1
      clear r1
      go_wp2
      exact results_cell_tmp67 (g := w.heap.size + 1) rfl rfl rfl R1.out rfl ⟨_, rfl, r2, r3⟩
    · have eE : doE σ.load 4 c = 0 := hse
      have eS : doS σ 4 c off = setS σ c 0 0 := rfl
      rw [eE, eS]
      clear eE eS hse hgt8 hc
      generalize getF σ.load c 0 = x at *
      go_enter Try.func120, Try.ntmps120
      go_wp2_with fail
      generalize (w.alloc (.cells #[.slice A n c', .slice B m d] 67)).alloc (.cells #[.slice none 0 0, .slice none 0 0] 67) = w1 at *
      refine (show Calls _ _ #[_, _, .int .u64 0] _ _ from hgt w1 (Below.refl _ _)).mono ?_
      rintro e w2 ⟨rfl, hg2⟩
      have hB2 := hg2.heap hB
      have hT2 := hg2.heap hT
      have h2 := h1.grow hg2
      have hX2 := fun b hb => Nat.lt_of_lt_of_le (hX1 b hb) hg2.size
      have hgf := hga.trans hg2
      clear hgt hB hT h1 hX1
      have b0 : w2.cell? ⟨w.heap.size, 0, none⟩ = some (.slice A n c') := by rw [cell_of_heap hB2]; rfl
      have b1 : w2.cell? ⟨w.heap.size, 1, none⟩ = some (.slice B m d) := by rw [cell_of_heap hB2]; rfl
      have t0 : w2.cell? ⟨w.heap.size + 1, 0, none⟩ = some (.slice none 0 0) := by rw [cell_of_heap hT2]; rfl
      have t1 : w2.cell? ⟨w.heap.size + 1, 1, none⟩ = some (.slice none 0 0) := by rw [cell_of_heap hT2]; rfl
      have f0 := frozen_of_heap hT2 0
      have f1 := frozen_of_heap hT2 1
      have hst := rsetS h2 hX2 hf c 0 0 rfl (by omega)
      go_wp2_with fail
      refine (show Calls _ _ #[_, _, .int .u64 0, .int .u64 0] _ _ from hst).mono ?_
      rintro e w5 ⟨rv', rfl, hr, hg5⟩
      obtain ⟨A5, n5, c5, B5, m5, d5, rfl⟩ := hr.agg
      have hT5 := hg5.heap hT2
      have hgz := hgf.trans hg5
      clear hst b0 b1 t0 t1 f0 f1
      have t0 : w5.cell? ⟨w.heap.size + 1, 0, none⟩ = some (.slice none 0 0) := by rw [cell_of_heap hT5]; rfl
      have t1 : w5.cell? ⟨w.heap.size + 1, 1, none⟩ = some (.slice none 0 0) := by rw [cell_of_heap hT5]; rfl
      have f0 := frozen_of_heap hT5 0
      have f1 := frozen_of_heap hT5 1
      obtain ⟨r1, r2, r3⟩ := fin67 hT5 hr hgz (show w.heap.size ≤ w.heap.size + 1 by omega)
      have R1 := Lib.hid r1
      clear r1
      go_wp2
      exact results_cell_tmp67 (g := w.heap.size + 1) rfl rfl rfl R1.out rfl ⟨_, rfl, r2, r3⟩
  · have eE : doE σ.load what c = 1 := by
      have hse : setE c = 1 := if_neg hc
      have hg0 : getF σ.load c 0 = 0 := if_neg hc
      rcases (show what = 1 ∨ what = 2 ∨ what = 3 ∨ what = 4 by omega) with rfl | rfl | rfl | rfl
      · show attE _ _ = _
        unfold attE
        rw [if_pos hg0, hse]
      · show detE _ _ = _
        unfold detE
        rw [if_neg hc]
      · exact hse
      · exact hse
    have eS : doS σ what c off = σ := by
      have hg0 : getF σ.load c 0 = 0 := if_neg hc
      rcases (show what = 1 ∨ what = 2 ∨ what = 3 ∨ what = 4 by omega) with rfl | rfl | rfl | rfl
      · show attS _ _ = _
        unfold attS
        rw [if_pos hg0]
        exact if_neg hc
      · show detS _ _ = _
        unfold detS
        rw [if_neg (fun k => hc ⟨k.1, k.2.1⟩)]
      · exact if_neg hc
      · exact if_neg hc
    rw [eE, eS]
    clear eE eS
    by_cases h0 : c < 0
    · have g1 : decide (c < 0) = true := decide_eq_true h0
      clear h0 hc
      go_enter Try.func120, Try.ntmps120
      go_wp2_with fail
      have hgb : Grow w ((w.alloc (.cells #[.slice A n c', .slice B m d] 67)).alloc (.cells #[.slice A n c', .slice B m d] 67)) := ((Below.refl _ _).alloc (Nat.le_refl _) _).alloc (by simp) _
      have hTb : ((w.alloc (.cells #[.slice A n c', .slice B m d] 67)).alloc (.cells #[.slice A n c', .slice B m d] 67)).heap[w.heap.size + 1]? = some (.cells #[.slice A n c', .slice B m d] 67 (0, 0)) := by
        have := World.alloc_heap_new (w.alloc (.cells #[.slice A n c', .slice B m d] 67)) (.cells #[.slice A n c', .slice B m d] 67)
        rwa [World.size_alloc] at this
      exact results_cell_tmp67 (g := w.heap.size + 1) rfl rfl rfl hTb rfl ⟨_, rfl, h0r.grow hgb, hgb⟩
    · have g1 : decide (c < 0) = false := decide_eq_false h0
      have g2 : decide (7 < c) = true := decide_eq_true (by omega)
      clear h0 hc
      go_enter Try.func120, Try.ntmps120
      go_wp2_with fail
      have hgb : Grow w ((w.alloc (.cells #[.slice A n c', .slice B m d] 67)).alloc (.cells #[.slice A n c', .slice B m d] 67)) := ((Below.refl _ _).alloc (Nat.le_refl _) _).alloc (by simp) _
      have hTb : ((w.alloc (.cells #[.slice A n c', .slice B m d] 67)).alloc (.cells #[.slice A n c', .slice B m d] 67)).heap[w.heap.size + 1]? = some (.cells #[.slice A n c', .slice B m d] 67 (0, 0)) := by
        have := World.alloc_heap_new (w.alloc (.cells #[.slice A n c', .slice B m d] 67)) (.cells #[.slice A n c', .slice B m d] 67)
        rwa [World.size_alloc] at this
      exact results_cell_tmp67 (g := w.heap.size + 1) rfl rfl rfl hTb rfl ⟨_, rfl, h0r.grow hgb, hgb⟩
end Go.Proofs.Ck
