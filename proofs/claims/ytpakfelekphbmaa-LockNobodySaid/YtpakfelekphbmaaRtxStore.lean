/- Words that are thought of: the document's: one more. -/
import Derived.Test.YtpakfelekphbmaaRtx
import Derived.Test.YtpakfelekphbmaaPush
import Derived.Laws.Rows
namespace Go.Proofs.Ck
open Go Go.RowKit

theorem info73 : (Try.prog.info? 73).map (fun i => (i.zero, i.size, i.bytes)) = some (some (.agg #[.int .u64 0, .int .u64 0]), 2, 16) := by kernel_rfl
theorem info67 : (Try.prog.info? 67).map (·.size) = some 2 := by kernel_rfl

/-- A pair of slices comes back, out of a cell. -/
theorem ret_tx {fn : Func} {R : Ending → World → Prop} {tmps : Array Value} {p : Tmp} {W : World} {g : Nat} {cs : Array Value} {fr : Nat × Nat} (hf : fn.results = #[.cell p 67])
    (hp : tmps.getD p undef = .pointer (some ⟨g, 0, none⟩)) (hg : W.heap[g]? = some (.cells cs 67 fr)) (h2 : cs.size = 2) (hR : R (.returned (.agg cs)) W) :
    bodyPost Try.prog fn R .ret ⟨tmps, []⟩ W :=
  bodyPost_ret (results_cell_row hf tmps W g 67 cs fr _ hp hg Try.underlying67 rfl (info67.trans (by rw [h2]))) rfl hR

theorem pput_set {p : List (Nat × Nat)} (hd : (p.map (·.1)).Nodup) {i off x : Nat} (hi : i < p.length) (he : (p.getD i (0, 0)).1 = off) : pput p off x = p.set i (off, x) := by
  have hpi : (p.map (·.1))[i]? = some off := by
    rw [List.getElem?_map, List.getElem?_eq_getElem hi]
    rw [List.getD_eq_getElem?_getD, List.getElem?_eq_getElem hi] at he
    simpa using he
  have hs : (plook p off).isSome = true := plook_mem.2 (List.mem_of_getElem? hpi)
  unfold pput
  rw [if_pos hs]
  apply List.ext_getElem?
  intro j
  rw [List.getElem?_map, List.getElem?_set]
  by_cases hij : i = j
  · subst hij
    rw [if_pos rfl, if_pos hi, List.getElem?_eq_getElem hi]
    rw [List.getElem?_map, List.getElem?_eq_getElem hi] at hpi
    simp only [Option.map_some, Option.some.injEq] at hpi
    simp [hpi]
  · rw [if_neg hij]
    cases hj : p[j]? with
    | none => rfl
    | some q =>
      have hne : q.1 ≠ off := fun e => hij (nodup_at hd hpi (by rw [List.getElem?_map, hj]; simp [e]))
      simp [hne]
theorem puts_set {p : List (Nat × Nat)} {i off x : Nat} (hi : i < p.length) : puts (p.set i (off, x)) = ((puts p).set (i * 2) (.int .u64 (off : Int))).set (i * 2 + 1) (.int .u64 (x : Int)) := by
  induction p generalizing i with
  | nil => simp at hi
  | cons q p ih =>
    cases i with
    | zero => simp [puts]
    | succ i =>
      have := ih (i := i) (by simpa using hi)
      have e : ∀ (q : Nat × Nat) (p : List (Nat × Nat)), puts (q :: p) = .int .u64 (q.1 : Int) :: .int .u64 (q.2 : Int) :: puts p := fun q p => by simp [puts]
      rw [List.set_cons_succ, e, e, this, show (i + 1) * 2 = i * 2 + 1 + 1 from by omega]
      simp
theorem puts_snoc (p : List (Nat × Nat)) (off x : Nat) : puts (p ++ [(off, x)]) = puts p ++ [.int .u64 (off : Int), .int .u64 (x : Int)] := by simp [puts]

set_option maxRecDepth 100000 in
set_option maxHeartbeats 2000000 in
theorem rtx_store {S S' : Nat → Prop} {w : World} {A B : Option Addr} {c d : Nat} {σ : St} (h : Nums S w A σ.W) (hp : Puts S' w B σ.p) (hBd : B = none → d = 0) (off x : Nat) (ho : off < 18446744073709551616) (hn : σ.W.length ≤ 17592186044416) (hpn : σ.p.length ≤ 1000000) (hd : (σ.p.map (·.1)).Nodup) :
    Calls Try.prog 156 #[.agg #[.slice A σ.W.length c, .slice B σ.p.length d], .int .u64 (off : Int), .int .u64 (x : Int)] w fun e w' =>
      (∃ B' d', e = .returned (.agg #[.slice A σ.W.length c, .slice B' (σ.store off x).p.length d']) ∧ (B' = none → d' = 0) ∧ Puts (fun b => S' b ∨ w.heap.size ≤ b) w' B' (σ.store off x).p) ∧ Grow w w' := by
  have hg0 : Grow w ((w.alloc (.cells #[.slice A σ.W.length c, .slice B σ.p.length d] 67)).alloc (.cells #[.slice none 0 0, .slice none 0 0] 67)) := ((Below.refl _ _).alloc (Nat.le_refl _) _).alloc (by simp) _
  have hB : ((w.alloc (.cells #[.slice A σ.W.length c, .slice B σ.p.length d] 67)).alloc (.cells #[.slice none 0 0, .slice none 0 0] 67)).heap[w.heap.size]? = some (.cells #[.slice A σ.W.length c, .slice B σ.p.length d] 67 (0, 0)) :=
    (Below.heap_alloc _ _ _ (by simp)).trans (World.alloc_heap_new w _)
  have hT : ((w.alloc (.cells #[.slice A σ.W.length c, .slice B σ.p.length d] 67)).alloc (.cells #[.slice none 0 0, .slice none 0 0] 67)).heap[w.heap.size + 1]? = some (.cells #[.slice none 0 0, .slice none 0 0] 67 (0, 0)) := by
    have := World.alloc_heap_new (w.alloc (.cells #[.slice A σ.W.length c, .slice B σ.p.length d] 67)) (.cells #[.slice none 0 0, .slice none 0 0] 67)
    rw [show (w.alloc (.cells #[.slice A σ.W.length c, .slice B σ.p.length d] 67)).heap.size = w.heap.size + 1 from by simp] at this
    exact this
  have h1 := h.grow hg0
  have hp1 : Puts (fun b => S' b ∧ b < w.heap.size) _ B σ.p := (hp.mono (S' := fun b => S' b ∧ b < w.heap.size) (fun b hb hs => ⟨hs, hb⟩)).grow hg0
  clear h hp
  by_cases hc : off % 8 = 0 ∧ off / 8 < σ.W.length
  · have hst : (σ.store off x).p = pput σ.p off x := by unfold St.store; rw [if_pos hc]
    rw [hst]
    clear hst
    obtain ⟨i73, hi, hz, hs, hb⟩ := info_parts info73
    have hld := rload_ok (c := c) h1 off hc.1 hc.2 (by omega)
    generalize σ.W.getD (off / 8) 0 = V at hld
    go_enter Try.func156, Try.ntmps156
    go_wp2_with fail
    generalize (w.alloc (.cells #[.slice A σ.W.length c, .slice B σ.p.length d] 67)).alloc (.cells #[.slice none 0 0, .slice none 0 0] 67) = w1 at hg0 hB hT h1 hp1 hld ⊢
    refine hld.mono ?_
    rintro e w' ⟨rfl, rfl⟩
    clear hld
    have hga : Grow w1 (w1.alloc (Obj.cells #[] 73)) := (Below.refl _ w1).alloc (Nat.le_refl _) _
    have a1 : (w1.alloc (Obj.cells #[] 73)).cell? ⟨w.heap.size, 1, none⟩ = some (.slice B σ.p.length d) := by rw [cell_of_heap (hga.heap hB)]; rfl
    go_wp2_with (at_builtin; refine wpList_append_row (S := fun b => S' b ∧ b < w.heap.size) _ rfl (.tmp 21) (.tmp 23) 64 rfl w1.heap.size 73 i73 _ 2 16 Try.underlying64 hi hz hs hb rfl (by decide) _ 0 [] rfl (World.ownsRow_made w1 #[] 0 (Nat.le_refl _) (Nat.zero_le _) rfl) _ _ _ (puts σ.p) rfl (hp1.grow hga) hBd (puts_one _) (by unfold maxLen; omega) (by omega) (by simp) ?_)
    intro v' w2 hown ho2
    replace hown : w2.ownsRow w1.heap.size 73 2 v' σ.p.length (puts σ.p) := by simpa using hown
    have hg2 : Grow w1 w2 := (Only.below ((Only.of_below hga).trans ho2) (Nat.le_refl _) (fun k hk => by simp [Value.ownBlock] at hk; omega))
    have hsz1 := hg0.size
    have hB2 := hg2.heap hB
    have hT2 := hg2.heap hT
    have hp2 := hp1.grow hg2
    have hg02 := hg0.trans hg2
    have hw1 : w.heap.size + 1 < w1.heap.size := lt_of_heap hT
    clear ho2 hga a1 hB hT hp1 h1 hg0
    obtain ⟨A1, c1, rfl, hle, -, -⟩ := Row.of_own hown
    have a0 : w2.cell? ⟨w.heap.size, 0, none⟩ = some (.slice A σ.W.length c) := by rw [cell_of_heap hB2]; rfl
    have a1 : w2.cell? ⟨w.heap.size, 1, none⟩ = some (.slice B σ.p.length d) := by rw [cell_of_heap hB2]; rfl
    go_wp2_with fail
    refine (rat (m := σ.W.length) (A := A) (c := c) (d := d) hp2 off (by omega)).mono ?_
    rintro e w3 ⟨hr, hg3⟩
    have hg03 := hg02.trans hg3
    have hB3 := hg3.heap hB2
    have hT3 := hg3.heap hT2
    have hown3 := own_grow hown hg3
    have hsz3 := Nat.le_trans hg2.size hg3.size
    clear hB2 hT2 hown hp2 a0 a1 hg02 hg2 hg3
    have a0 : w3.cell? ⟨w.heap.size, 0, none⟩ = some (.slice A σ.W.length c) := by rw [cell_of_heap hB3]; rfl
    have t0 : w3.cell? ⟨w.heap.size + 1, 0, none⟩ = some (.slice none 0 0) := by rw [cell_of_heap hT3]; rfl
    have t1 : w3.cell? ⟨w.heap.size + 1, 1, none⟩ = some (.slice none 0 0) := by rw [cell_of_heap hT3]; rfl
    have f0 := frozen_of_heap hT3 0
    have f1 := frozen_of_heap hT3 1
    rcases hr with ⟨i, rfl, hil, hie, -⟩ | ⟨rfl, hl⟩
    · have hset := pput_set (x := x) hd hil hie
      obtain ⟨g, cap, cur, hv, hbg, hgc, hcap, hcm, hcz, hcur⟩ := own_form hown3 (by omega)
      cases hv
      have hx0 := hcur _ _ (puts_get hil).1
      have hx1 := hcur _ _ (puts_get hil).2
      have y0 : w3.cell? ⟨g, i * 2, none⟩ = _ := (cell_of_heap hgc _).trans hx0
      have y1 : w3.cell? ⟨g, i * 2 + 1, none⟩ = _ := (cell_of_heap hgc _).trans hx1
      have z0 := frozen_of_heap hgc (i * 2)
      have z1 := frozen_of_heap hgc (i * 2 + 1)
      have g0 : decide ((0 : Int) ≤ i) = true := decide_eq_true (by omega)
      generalize (σ.p.getD i (0, 0)).1 = k1 at y0
      generalize (σ.p.getD i (0, 0)).2 = k2 at y1
      have HC := Lib.hid hcur
      have HS := Lib.hid hset
      have HO := Lib.hid hown3
      clear hcur hset hown3 hx0 hx1 hie
      have hne : g ≠ w.heap.size := by omega
      have hne1 : g ≠ w.heap.size + 1 := by omega
      go_wp2
      have hgT : ∀ (X : World) (u : Value) (o : Nat), (X.setCell ⟨g, o, none⟩ u).heap[w.heap.size + 1]? = X.heap[w.heap.size + 1]? := fun X u o => Below.heap_setCell _ _ _ _ (by simp; omega)
      have hTg : ∀ (X : World) (u : Value) (o : Nat), (X.setCell ⟨w.heap.size + 1, o, none⟩ u).heap[g]? = X.heap[g]? := fun X u o => Below.heap_setCell _ _ _ _ (by simp; omega)
      have hT5 : ((w3.setCell ⟨g, i * 2, none⟩ (.int .u64 (off : Int))).setCell ⟨g, i * 2 + 1, none⟩ (.int .u64 (x : Int))).heap[w.heap.size + 1]? = some (.cells #[.slice none 0 0, .slice none 0 0] 67 (0, 0)) := by rw [hgT, hgT]; exact hT3
      have hg5 := heap_setCell_row (heap_setCell_row hgc (i := i * 2) (.int .u64 (off : Int))) (i := i * 2 + 1) (.int .u64 (x : Int))
      refine ret_tx (g := w.heap.size + 1) rfl rfl (heap_setCell_row (heap_setCell_row hT5 (i := 0) (.slice A σ.W.length c)) (i := 1) (.slice (some ⟨g, 0, none⟩) σ.p.length c1)) rfl ⟨⟨some ⟨g, 0, none⟩, c1, ?_, fun h => (by cases h), ?_⟩, ?_⟩
      · rw [HS.out, List.length_set]; rfl
      · rw [HS.out]
        refine Row.of_block ((hTg _ _ _).trans ((hTg _ _ _).trans hg5)) (.inr (by omega)) (by rw [puts_length]) fun j u hj => ?_
        rw [puts_set hil] at hj
        rw [Array.getElem?_setIfInBounds]
        rw [List.getElem?_set] at hj
        have hil2 : i * 2 + 1 < cur.size := by omega
        by_cases e1 : i * 2 + 1 = j
        · rw [if_pos e1] at hj ⊢
          rw [if_pos (by simp; omega)]
          split at hj
          · exact hj
          · cases hj
        · rw [if_neg e1] at hj ⊢
          rw [Array.getElem?_setIfInBounds]
          rw [List.getElem?_set] at hj
          by_cases e2 : i * 2 = j
          · rw [if_pos e2] at hj ⊢
            rw [if_pos (by omega)]
            split at hj
            · exact hj
            · cases hj
          · rw [if_neg e2] at hj ⊢
            exact HC.out j u hj
      · exact (((hg03.setCell (p := ⟨g, i * 2, none⟩) (by simp; omega) _).setCell (p := ⟨g, i * 2 + 1, none⟩) (by simp; omega) _).setCell (p := ⟨w.heap.size + 1, 0, none⟩) (by simp) _).setCell (p := ⟨w.heap.size + 1, 1, none⟩) (by simp) _
    · have hpp : pput σ.p off x = σ.p ++ [(off, x)] := by unfold pput; rw [hl]; rfl
      have HP := Lib.hid hpp
      clear hpp hl
      go_wp2_with (at_builtin; refine wpList_push2 w3 rfl (.tmp 36) (.tmp 40) 64 rfl w1.heap.size 73 i73 _ 2 16 Try.underlying64 hi hz hs hb rfl (by decide) _ _ _ rfl hown3 #[.int .u64 (off : Int), .int .u64 (x : Int)] rfl rfl (by simp [Value.oneCell']) rfl (by unfold maxLen; omega) (by omega) hsz3 ?_)
      intro v' w4 hown4 ho4 hwh
      have hA : ∀ b, (Value.slice A1 σ.p.length c1).ownBlock = some b → w1.heap.size ≤ b := own_ge hown3
      have hB4 := ho4.heap hB3 (fun e => by have := hA _ e; omega)
      have hT4 := ho4.heap hT3 (fun e => by have := hA _ e; omega)
      have hg04 : Grow w w4 := Below.trans hg03 (ho4.below hg03.size (fun k hk => by have := hA _ hk; omega))
      obtain ⟨g, cap, cur, rfl, hbg, hgc, hcap, hcm, hcz, hcur⟩ := own_form hown4 (by omega)
      have HC := Lib.hid hcur
      clear hown3 hown4 ho4 hwh a0 t0 t1 f0 f1 hB3 hT3 hcur
      have a0 : w4.cell? ⟨w.heap.size, 0, none⟩ = some (.slice A σ.W.length c) := by rw [cell_of_heap hB4]; rfl
      have t0 : w4.cell? ⟨w.heap.size + 1, 0, none⟩ = some (.slice none 0 0) := by rw [cell_of_heap hT4]; rfl
      have t1 : w4.cell? ⟨w.heap.size + 1, 1, none⟩ = some (.slice none 0 0) := by rw [cell_of_heap hT4]; rfl
      have f0 := frozen_of_heap hT4 0
      have f1 := frozen_of_heap hT4 1
      go_wp2
      have hTg : ∀ (X : World) (u : Value) (o : Nat), (X.setCell ⟨w.heap.size + 1, o, none⟩ u).heap[g]? = X.heap[g]? := fun X u o => Below.heap_setCell _ _ _ _ (by simp; omega)
      refine ret_tx (g := w.heap.size + 1) rfl rfl (heap_setCell_row (heap_setCell_row hT4 (i := 0) (.slice A σ.W.length c)) (i := 1) (.slice (some ⟨g, 0, none⟩) (σ.p.length + 1) cap)) rfl ⟨⟨some ⟨g, 0, none⟩, cap, ?_, fun h => (by cases h), ?_⟩, ?_⟩
      · rw [HP.out, List.length_append]; rfl
      · rw [HP.out]
        refine Row.of_block ((hTg _ _ _).trans ((hTg _ _ _).trans hgc)) (.inr (by omega)) (by rw [puts_length]) fun j u hj => ?_
        rw [puts_snoc] at hj
        exact HC.out j u hj
      · exact (hg04.setCell (p := ⟨w.heap.size + 1, 0, none⟩) (by simp) _).setCell (p := ⟨w.heap.size + 1, 1, none⟩) (by simp) _
  · have hst : σ.store off x = σ := by unfold St.store; rw [if_neg hc]
    rw [hst]
    clear hst
    go_enter Try.func156, Try.ntmps156
    go_wp2_with fail
    generalize (w.alloc (.cells #[.slice A σ.W.length c, .slice B σ.p.length d] 67)).alloc (.cells #[.slice none 0 0, .slice none 0 0] 67) = w1 at hg0 hB hT h1 hp1 ⊢
    refine (rload_bad A σ.W.length c off w1 ho hc (by omega)).mono ?_
    rintro e w' ⟨rfl, rfl⟩
    have a0 : w1.cell? ⟨w.heap.size, 0, none⟩ = some (.slice A σ.W.length c) := by rw [cell_of_heap hB]; rfl
    have a1 : w1.cell? ⟨w.heap.size, 1, none⟩ = some (.slice B σ.p.length d) := by rw [cell_of_heap hB]; rfl
    have t0 : w1.cell? ⟨w.heap.size + 1, 0, none⟩ = some (.slice none 0 0) := by rw [cell_of_heap hT]; rfl
    have t1 : w1.cell? ⟨w.heap.size + 1, 1, none⟩ = some (.slice none 0 0) := by rw [cell_of_heap hT]; rfl
    have f0 := frozen_of_heap hT 0
    have f1 := frozen_of_heap hT 1
    have HT := Lib.hid (heap_setCell_row (heap_setCell_row hT (i := 0) (.slice A σ.W.length c)) (i := 1) (.slice B σ.p.length d))
    have HP := Lib.hid hp1
    clear hp1 h1 hB hT
    go_wp2
    refine ret_tx (g := w.heap.size + 1) rfl rfl HT.out rfl ⟨⟨B, d, rfl, hBd, ?_⟩, ?_⟩
    · have hoT : Only (fun b => b = w.heap.size + 1) w1 ((w1.setCell ⟨w.heap.size + 1, 0, none⟩ (.slice A σ.W.length c)).setCell ⟨w.heap.size + 1, 1, none⟩ (.slice B σ.p.length d)) :=
        Only.setCell (S := fun b => b = w.heap.size + 1) (p := ⟨w.heap.size + 1, 1, none⟩) (Only.setCell (S := fun b => b = w.heap.size + 1) (p := ⟨w.heap.size + 1, 0, none⟩) (Only.refl _ _) rfl _) rfl _
      exact (HP.out.only hoT (fun b hb hs => by have := hs.2; omega)).mono (fun b _ hb => .inl hb.1)
    · exact (hg0.setCell (by simp) _).setCell (by simp) _
end Go.Proofs.Ck
