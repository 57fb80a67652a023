/- The ledger's units, read out of the document: one that lies. -/
import Derived.Test.YtpakfelekphbmaaGr6
import Derived.Test.YtpakfelekphbmaaGLed
namespace Go.Proofs.Ck
open Go Go.RowKit

theorem results_ct211 {fn : Func} {tmps : Array Value} {p u : Tmp} {W : World} {g : Nat} {a b c y : Value} {fr : Nat × Nat} (hf : fn.results = #[.cell p 211, .tmp u])
    (hp : tmps.getD p undef = .pointer (some ⟨g, 0, none⟩)) (hu : tmps.getD u undef = y) (hg : W.heap[g]? = some (.cells #[a, b, c] 211 fr)) :
    (results fn tmps).run Try.prog W = .ok (.tuple #[.agg #[a, b, c], y]) W := by
  have hp' : tmps[p]?.getD undef = .pointer (some ⟨g, 0, none⟩) := by simpa using hp
  have hu' : tmps[u]?.getD undef = y := by simpa using hu
  have c0 : W.cell? ⟨g, 0, none⟩ = some a := by rw [cell_of_heap hg]; rfl
  have c1 : W.cell? ⟨g, 1, none⟩ = some b := by rw [cell_of_heap hg]; rfl
  have c2 : W.cell? ⟨g, 2, none⟩ = some c := by rw [cell_of_heap hg]; rfl
  simp only [results, hf]
  go_simp

set_option maxRecDepth 100000 in
set_option maxHeartbeats 4000000 in
theorem rread_good {rv : Value} {f : Nat → Nat} {w : World} {X : Nat → Prop} (h : RefF rv f w X) (off s o E : Nat) (u : Bool) (hE : f 16 = E) (hE2 : E < 18446744073709551616) (hoff : off < 18446744073709551616)
    (hi0 : inG E off 0 = true) (his : inG E off s = true) (hmay : mayG s u o = true) (h1 : f off = packG s u o) (h2 : f (off + s - 8) = packG s u o) :
    Calls Try.prog 194 #[rv, .int .u64 (off : Int)] w fun e w' => e = .returned (.tuple #[.agg #[.int .u64 (s : Int), .bool u, .int .i64 (o : Int)], .int .i64 0]) ∧ Grow w w' := by
  obtain ⟨A, n, c', B, m, d, rfl⟩ := h.agg
  obtain ⟨wa, hwa⟩ : ∃ wa, (w.alloc (.cells #[.slice A n c', .slice B m d] 67)).alloc (.cells #[.int .u64 0, .bool false, .int .i64 0] 211) = wa := ⟨_, rfl⟩
  have hga : Grow w wa := by rw [← hwa]; exact ((Below.refl _ _).alloc (Nat.le_refl _) _).alloc (by simp) _
  have hB : wa.heap[w.heap.size]? = some (.cells #[.slice A n c', .slice B m d] 67 (0, 0)) := by
    rw [← hwa]; exact (Below.heap_alloc _ _ _ (by simp)).trans (World.alloc_heap_new w _)
  have hT : wa.heap[w.heap.size + 1]? = some (.cells #[.int .u64 0, .bool false, .int .i64 0] 211 (0, 0)) := by
    have := World.alloc_heap_new (w.alloc (.cells #[.slice A n c', .slice B m d] 67)) (.cells #[.int .u64 0, .bool false, .int .i64 0] 211)
    rw [World.size_alloc] at this
    rw [← hwa]; exact this
  have hr := h.grow hga
  have hs := (mayG_iff _ _ _).1 hmay
  have hii := (inG_iff _ _ _).1 his
  have hin0 := rinG hr off 0 E hE hE2 hoff
  rw [hi0] at hin0
  have hin1 := fun w' (hg : Grow wa w') => rinG (hr.grow hg) off s E hE hE2 hoff
  rw [his] at hin1
  have hl0 := fun w' (hg : Grow wa w') => (hr.grow hg).load off hoff
  have hl1 := fun w' (hg : Grow wa w') => (hr.grow hg).load (off + s - 8) (by omega)
  rw [h1] at hl0
  rw [h2] at hl1
  have hun := fun w' => runpackG w' (packG s u o) (by have := packG_lt s u o; omega)
  obtain ⟨ok1, ok2⟩ := un_pack hmay
  rw [ok1, ok2] at hun
  have hP := packG_lt s u o
  generalize packG s u o = P at *
  have e1 : IntKind.u64.wrap ((off : Int) + (s : Int)) = ((off + s : Nat) : Int) := by rw [IntKind.wrap_u64]; omega
  have e2 : IntKind.u64.wrap (((off + s : Nat) : Int) - 8) = ((off + s - 8 : Nat) : Int) := by rw [IntKind.wrap_u64]; omega
  generalize hos : off + s = os at *
  generalize os - 8 = os8 at *
  have PP : ((P : Int) != P) = false := by simp
  have a0 : wa.cell? ⟨w.heap.size, 0, none⟩ = some (.slice A n c') := by rw [cell_of_heap hB]; rfl
  have a1 : wa.cell? ⟨w.heap.size, 1, none⟩ = some (.slice B m d) := by rw [cell_of_heap hB]; rfl
  simp only [agG] at hun
  clear h h1 h2 hi0 his hmay hs hii hE ok1 ok2 hP hos hr
  go_enter Try.func194, Try.ntmps194
  go_wp2_with fail
  refine (show Calls _ _ #[_, _, .int .u64 0] _ _ from hin0).mono ?_
  rintro e w2 ⟨rfl, hg2⟩
  clear hin0 a0 a1 hwa
  have b0 : w2.cell? ⟨w.heap.size, 0, none⟩ = some (.slice A n c') := by rw [cell_of_heap (hg2.heap hB)]; rfl
  have b1 : w2.cell? ⟨w.heap.size, 1, none⟩ = some (.slice B m d) := by rw [cell_of_heap (hg2.heap hB)]; rfl
  go_wp2_with fail
  refine (hl0 _ hg2).mono ?_
  rintro e w3 ⟨rfl, hg3⟩
  replace hg2 := hg2.trans hg3
  clear b0 b1 hg3
  go_wp2_with fail
  refine (hun _).mono ?_
  rintro e w4 ⟨rfl, hg4⟩
  replace hg2 := hg2.trans hg4
  have hga4 : Grow w4 (w4.alloc (.cells #[.int .u64 (s : Int), .bool u, .int .i64 (o : Int)] 211)) := (Below.refl _ _).alloc (Nat.le_refl _) _
  have hC5 := World.alloc_heap_new w4 (.cells #[.int .u64 (s : Int), .bool u, .int .i64 (o : Int)] 211)
  have hqz : w.heap.size + 1 < w4.heap.size := lt_of_heap (hg2.heap hT)
  replace hg2 := hg2.trans hga4
  clear hg4 hga4 hun
  go_wp2
  generalize w4.heap.size = q at *
  generalize w4.alloc (.cells #[.int .u64 (s : Int), .bool u, .int .i64 (o : Int)] 211) = w5 at *
  have kp : ∀ w', Grow w5 w' → w'.cell? ⟨w.heap.size, 0, none⟩ = some (.slice A n c') ∧ w'.cell? ⟨w.heap.size, 1, none⟩ = some (.slice B m d) ∧ w'.cell? ⟨q, 0, none⟩ = some (.int .u64 (s : Int)) := fun w' hg' =>
    ⟨(cell_of_heap ((hg2.trans hg').heap hB) 0).trans rfl, (cell_of_heap ((hg2.trans hg').heap hB) 1).trans rfl, (cell_of_heap (hg'.heap hC5) 0).trans rfl⟩
  refine region_plain (fun w' => w'.cell? ⟨w.heap.size, 0, none⟩ = some (.slice A n c') ∧ w'.cell? ⟨w.heap.size, 1, none⟩ = some (.slice B m d) ∧ w'.cell? ⟨q, 0, none⟩ = some (.int .u64 (s : Int))) (by kernel_rfl) (kp _ (grow_drew _)) (fun hHeld => ?_)
  refine wpAnyH_take (i := 0) (v := ?_) rfl (by kernel_rfl) (by kernel_rfl) (by kernel_rfl) (fun _ _ _ h => h) (Or.inl ⟨by first | kernel_rfl | rfl, ?_⟩) (by assumption) ?_
  rotate_left
  · intro w hSw; (try dsimp only at hSw); (try go_split_ands); go_simp; first | done | with_reducible rfl
  try simp only [Act.put, List.getElem_toArray, List.getElem_cons_zero, List.setIfInBounds_toArray, List.set_cons_zero, List.set_cons_succ]
  refine wpAnyH_take (i := 1) (v := ?_) rfl (by kernel_rfl) (by kernel_rfl) (by kernel_rfl) (fun _ _ _ h => h) (Or.inl ⟨by first | kernel_rfl | rfl, ?_⟩) (by assumption) ?_
  rotate_left
  · intro w hSw; (try dsimp only at hSw); (try go_split_ands); go_simp; first | done | with_reducible rfl
  try simp only [Act.put, List.getElem_toArray, List.getElem_cons_succ, List.getElem_cons_zero, List.setIfInBounds_toArray, List.set_cons_zero, List.set_cons_succ]
  refine wpAnyH_take (i := 2) (v := ?_) rfl (by kernel_rfl) (by kernel_rfl) (by kernel_rfl) (fun _ _ _ h => h) (Or.inl ⟨by first | kernel_rfl | rfl, ?_⟩) (by assumption) ?_
  rotate_left
  · intro w hSw; (try dsimp only at hSw); (try go_split_ands); go_simp; first | done | with_reducible rfl
  try simp only [Act.put, List.getElem_toArray, List.getElem_cons_succ, List.getElem_cons_zero, List.setIfInBounds_toArray, List.set_cons_zero, List.set_cons_succ]
  refine wpAnyH_take (i := 3) (v := ?_) rfl (by kernel_rfl) (by kernel_rfl) (by kernel_rfl) (fun _ _ _ h => h) (Or.inl ⟨by first | kernel_rfl | rfl, ?_⟩) (by assumption) ?_
  rotate_left
  · intro w hSw; (try dsimp only at hSw); (try go_split_ands); go_simp; first | done | with_reducible rfl
  try simp only [Act.put, List.getElem_toArray, List.getElem_cons_succ, List.getElem_cons_zero, List.setIfInBounds_toArray, List.set_cons_zero, List.set_cons_succ]
  refine wpAnyH_take (i := 4) (v := ?_) rfl (by kernel_rfl) (by kernel_rfl) (by kernel_rfl) (fun _ _ _ h => h) (Or.inl ⟨by first | kernel_rfl | rfl, ?_⟩) (by assumption) ?_
  rotate_left
  · intro w hSw; (try dsimp only at hSw); (try go_split_ands); go_simp; first | done | with_reducible rfl
  try simp only [Act.put, List.getElem_toArray, List.getElem_cons_succ, List.getElem_cons_zero, List.setIfInBounds_toArray, List.set_cons_zero, List.set_cons_succ]
  refine wpAnyH_take (i := 5) (v := ?_) rfl (by kernel_rfl) (by kernel_rfl) (by kernel_rfl) (fun _ _ _ h => h) (Or.inl ⟨by first | kernel_rfl | rfl, ?_⟩) (by assumption) ?_
  rotate_left
  · intro w hSw; (try dsimp only at hSw); (try go_split_ands); go_simp; first | done | with_reducible rfl
  try simp only [Act.put, List.getElem_toArray, List.getElem_cons_succ, List.getElem_cons_zero, List.setIfInBounds_toArray, List.set_cons_zero, List.set_cons_succ]
  refine wpAnyH_take (i := 6) (v := ?_) rfl (by kernel_rfl) (by kernel_rfl) (by kernel_rfl) (fun _ _ _ h => h) (Or.inl ⟨by first | kernel_rfl | rfl, ?_⟩) (by assumption) ?_
  rotate_left
  · intro w hSw; (try dsimp only at hSw); (try go_split_ands); go_simp; first | done | with_reducible rfl
  try simp only [Act.put, List.getElem_toArray, List.getElem_cons_succ, List.getElem_cons_zero, List.setIfInBounds_toArray, List.set_cons_zero, List.set_cons_succ]
  refine wpAnyH_ready (rs := [7]) (by kernel_rfl) (by simp) ?_
  refine AllReadyH.cons rfl (fun K hK => ?_) AllReadyH.nil
  go_simp
  go_at_call 203
  refine Calls.mono (hin1 _ (hg2.trans (grow_drew _))) ?_
  rintro e w6 ⟨rfl, hg6⟩
  have hgz : Grow w5 w6 := Grow.trans (grow_drew _) hg6
  go_wp2_with fail
  refine hK.out _ _ ?_ (fun hHeld => ?_)
  · exact kp _ hgz
  clear hK K
  try simp only [Act.put, List.getElem_toArray, List.getElem_cons_succ, List.getElem_cons_zero, List.setIfInBounds_toArray, List.set_cons_zero, List.set_cons_succ]
  refine wpAnyH_take (i := 8) (v := ?_) rfl (by kernel_rfl) (by kernel_rfl) (by kernel_rfl) (fun _ _ _ h => h) (Or.inl ⟨by first | kernel_rfl | rfl, ?_⟩) (by assumption) ?_
  rotate_left
  · intro w hSw; (try dsimp only at hSw); (try go_split_ands); go_simp; first | done | with_reducible rfl
  try simp only [Act.put, List.getElem_toArray, List.getElem_cons_succ, List.getElem_cons_zero, List.setIfInBounds_toArray, List.set_cons_zero, List.set_cons_succ]
  refine wpAnyH_take (i := 9) (v := ?_) rfl (by kernel_rfl) (by kernel_rfl) (by kernel_rfl) (fun _ _ _ h => h) (Or.inl ⟨by first | kernel_rfl | rfl, ?_⟩) (by assumption) ?_
  rotate_left
  · intro w hSw; (try dsimp only at hSw); (try go_split_ands); go_simp; first | done | with_reducible rfl
  try simp only [Act.put, List.getElem_toArray, List.getElem_cons_succ, List.getElem_cons_zero, List.setIfInBounds_toArray, List.set_cons_zero, List.set_cons_succ]
  refine wpAnyH_take (i := 10) (v := ?_) rfl (by kernel_rfl) (by kernel_rfl) (by kernel_rfl) (fun _ _ _ h => h) (Or.inl ⟨by first | kernel_rfl | rfl, ?_⟩) (by assumption) ?_
  rotate_left
  · intro w hSw; (try dsimp only at hSw); (try go_split_ands); go_simp; first | done | with_reducible rfl
  try simp only [Act.put, List.getElem_toArray, List.getElem_cons_succ, List.getElem_cons_zero, List.setIfInBounds_toArray, List.set_cons_zero, List.set_cons_succ]
  refine wpAnyH_take (i := 11) (v := ?_) rfl (by kernel_rfl) (by kernel_rfl) (by kernel_rfl) (fun _ _ _ h => h) (Or.inl ⟨by first | kernel_rfl | rfl, ?_⟩) (by assumption) ?_
  rotate_left
  · intro w hSw; (try dsimp only at hSw); (try go_split_ands); go_simp; first | done | with_reducible rfl
  try simp only [Act.put, List.getElem_toArray, List.getElem_cons_succ, List.getElem_cons_zero, List.setIfInBounds_toArray, List.set_cons_zero, List.set_cons_succ]
  refine wpAnyH_take (i := 12) (v := ?_) rfl (by kernel_rfl) (by kernel_rfl) (by kernel_rfl) (fun _ _ _ h => h) (Or.inl ⟨by first | kernel_rfl | rfl, ?_⟩) (by assumption) ?_
  rotate_left
  · intro w hSw; (try dsimp only at hSw); (try go_split_ands); go_simp; first | done | with_reducible rfl
  try simp only [Act.put, List.getElem_toArray, List.getElem_cons_succ, List.getElem_cons_zero, List.setIfInBounds_toArray, List.set_cons_zero, List.set_cons_succ]
  refine wpAnyH_take (i := 13) (v := ?_) rfl (by kernel_rfl) (by kernel_rfl) (by kernel_rfl) (fun _ _ _ h => h) (Or.inl ⟨by first | kernel_rfl | rfl, ?_⟩) (by assumption) ?_
  rotate_left
  · intro w hSw; (try dsimp only at hSw); (try go_split_ands); go_simp; first | done | with_reducible rfl
  try simp only [Act.put, List.getElem_toArray, List.getElem_cons_succ, List.getElem_cons_zero, List.setIfInBounds_toArray, List.set_cons_zero, List.set_cons_succ]
  refine wpAnyH_take (i := 14) (v := ?_) rfl (by kernel_rfl) (by kernel_rfl) (by kernel_rfl) (fun _ _ _ h => h) (Or.inl ⟨by first | kernel_rfl | rfl, ?_⟩) (by assumption) ?_
  rotate_left
  · intro w hSw; (try dsimp only at hSw); (try go_split_ands); go_simp; first | done | with_reducible rfl
  try simp only [Act.put, List.getElem_toArray, List.getElem_cons_succ, List.getElem_cons_zero, List.setIfInBounds_toArray, List.set_cons_zero, List.set_cons_succ]
  refine wpAnyH_take (i := 15) (v := ?_) rfl (by kernel_rfl) (by kernel_rfl) (by kernel_rfl) (fun _ _ _ h => h) (Or.inl ⟨by first | kernel_rfl | rfl, ?_⟩) (by assumption) ?_
  rotate_left
  · intro w hSw; (try dsimp only at hSw); (try go_split_ands); go_simp; first | done | with_reducible rfl
  try simp only [Act.put, List.getElem_toArray, List.getElem_cons_succ, List.getElem_cons_zero, List.setIfInBounds_toArray, List.set_cons_zero, List.set_cons_succ]
  refine wpAnyH_take (i := 16) (v := ?_) rfl (by kernel_rfl) (by kernel_rfl) (by kernel_rfl) (fun _ _ _ h => h) (Or.inl ⟨by first | kernel_rfl | rfl, ?_⟩) (by assumption) ?_
  rotate_left
  · intro w hSw; (try dsimp only at hSw); (try go_split_ands); go_simp; first | done | with_reducible rfl
  try simp only [Act.put, List.getElem_toArray, List.getElem_cons_succ, List.getElem_cons_zero, List.setIfInBounds_toArray, List.set_cons_zero, List.set_cons_succ]
  refine wpAnyH_take (i := 18) (v := ?_) rfl (by kernel_rfl) (by kernel_rfl) (by kernel_rfl) (fun _ _ _ h => h) (Or.inl ⟨by first | kernel_rfl | rfl, ?_⟩) (by assumption) ?_
  rotate_left
  · intro w hSw; (try dsimp only at hSw); (try go_split_ands); go_simp; first | done | with_reducible rfl
  try simp only [Act.put, List.getElem_toArray, List.getElem_cons_succ, List.getElem_cons_zero, List.setIfInBounds_toArray, List.set_cons_zero, List.set_cons_succ]
  refine wpAnyH_take (i := 19) (v := ?_) rfl (by kernel_rfl) (by kernel_rfl) (by kernel_rfl) (fun _ _ _ h => h) (Or.inl ⟨by first | kernel_rfl | rfl, ?_⟩) (by assumption) ?_
  rotate_left
  · intro w hSw; (try dsimp only at hSw); (try go_split_ands); go_simp; first | done | with_reducible rfl
  try simp only [Act.put, List.getElem_toArray, List.getElem_cons_succ, List.getElem_cons_zero, List.setIfInBounds_toArray, List.set_cons_zero, List.set_cons_succ]
  refine wpAnyH_ready (rs := [17]) (by kernel_rfl) (by simp) ?_
  refine AllReadyH.cons rfl (fun K hK => ?_) AllReadyH.nil
  go_simp
  go_at_call 157
  refine Calls.mono (hl1 _ (hg2.trans hgz)) ?_
  rintro e w7 ⟨rfl, hg7⟩
  replace hgz := hgz.trans hg7
  clear hg6 hg7
  go_wp2_with fail
  refine hK.out _ _ ?_ (fun hHeld => ?_)
  · exact kp _ hgz
  clear hK K
  try simp only [Act.put, List.getElem_toArray, List.getElem_cons_succ, List.getElem_cons_zero, List.setIfInBounds_toArray, List.set_cons_zero, List.set_cons_succ]
  refine wpAnyH_ready (rs := [20]) (by kernel_rfl) (by simp) ?_
  refine AllReadyH.cons rfl (fun K hK => ?_) AllReadyH.nil
  go_simp
  go_at_call 157
  refine Calls.mono (hl0 _ (hg2.trans hgz)) ?_
  rintro e w8 ⟨rfl, hg8⟩
  replace hgz := hgz.trans hg8
  clear hg8
  go_wp2_with fail
  refine hK.out _ _ ?_ (fun hHeld => ?_)
  · exact kp _ hgz
  clear hK K
  try simp only [Act.put, List.getElem_toArray, List.getElem_cons_succ, List.getElem_cons_zero, List.setIfInBounds_toArray, List.set_cons_zero, List.set_cons_succ]
  refine wpAnyH_take (i := 21) (v := ?_) rfl (by kernel_rfl) (by kernel_rfl) (by kernel_rfl) (fun _ _ _ h => h) (Or.inl ⟨by first | kernel_rfl | rfl, ?_⟩) (by assumption) ?_
  rotate_left
  · intro w hSw; (try dsimp only at hSw); (try go_split_ands); go_simp; first | done | with_reducible rfl
  try simp only [Act.put, List.getElem_toArray, List.getElem_cons_succ, List.getElem_cons_zero, List.setIfInBounds_toArray, List.set_cons_zero, List.set_cons_succ]
  refine wpAnyH_take (i := 22) (v := ?_) rfl (by kernel_rfl) (by kernel_rfl) (by kernel_rfl) (fun _ _ _ h => h) (Or.inl ⟨by first | kernel_rfl | rfl, ?_⟩) (by assumption) ?_
  rotate_left
  · intro w hSw; (try dsimp only at hSw); (try go_split_ands); go_simp; first | done | with_reducible rfl
  try simp only [Act.put, List.getElem_toArray, List.getElem_cons_succ, List.getElem_cons_zero, List.setIfInBounds_toArray, List.set_cons_zero, List.set_cons_succ]
  refine wpAnyH_done (by kernel_rfl) ?_ _
  refine NoPanic.normal ?_
  have hC8 := hgz.heap hC5
  have hT8 := (hg2.trans hgz).heap hT
  have hG8 := hga.trans (hg2.trans hgz)
  clear kp hl0 hl1 hin1 hgz hg2 hC5 hT hB hga
  have z0 : w8.cell? ⟨q, 0, none⟩ = some (.int .u64 (s : Int)) := by rw [cell_of_heap hC8]; rfl
  have z1 : w8.cell? ⟨q, 1, none⟩ = some (.bool u) := by rw [cell_of_heap hC8]; rfl
  have z2 : w8.cell? ⟨q, 2, none⟩ = some (.int .i64 (o : Int)) := by rw [cell_of_heap hC8]; rfl
  have t0 : w8.cell? ⟨w.heap.size + 1, 0, none⟩ = some (.int .u64 0) := by rw [cell_of_heap hT8]; rfl
  have t1 : w8.cell? ⟨w.heap.size + 1, 1, none⟩ = some (.bool false) := by rw [cell_of_heap hT8]; rfl
  have t2 : w8.cell? ⟨w.heap.size + 1, 2, none⟩ = some (.int .i64 0) := by rw [cell_of_heap hT8]; rfl
  have f0 := frozen_of_heap hT8 0
  have f1 := frozen_of_heap hT8 1
  have f2 := frozen_of_heap hT8 2
  have r1 := heap_setCell_row (heap_setCell_row (heap_setCell_row hT8 (i := 0) (.int .u64 (s : Int))) (i := 1) (.bool u)) (i := 2) (.int .i64 (o : Int))
  have r2 : Grow w _ := ((hG8.setCell (p := ⟨w.heap.size + 1, 0, none⟩) (by simp) (.int .u64 (s : Int))).setCell (p := ⟨w.heap.size + 1, 1, none⟩) (by simp) (.bool u)).setCell (p := ⟨w.heap.size + 1, 2, none⟩) (by simp) (.int .i64 (o : Int))
  have R1 := Lib.hid r1
  have R2 := Lib.hid r2
  clear r1 r2 hC8 hT8 hG8
  go_wp2
  exact bodyPost_ret (results_ct211 (g := w.heap.size + 1) (fr := (0, 0)) rfl rfl rfl R1.out) rfl ⟨rfl, R2.out⟩
end Go.Proofs.Ck
