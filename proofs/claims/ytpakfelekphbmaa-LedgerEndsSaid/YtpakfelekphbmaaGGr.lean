/- Parts of the proofs of this seat's laws. -/
import Derived.Test.YtpakfelekphbmaaGTx
import Derived.Test.YtpakfelekphbmaaGName
import Derived.Test.YtpakfelekphbmaaRef8

namespace Go.Proofs.Ck
open Go Go.RowKit

/-- May a unit be so? -/
def mayG (s : Nat) (u : Bool) (o : Nat) : Bool := decide (s % 16 = 0) && (decide (48 ≤ s) && (decide (s ≤ 1048576) && (decide (o ≤ 8) && (u || decide (o = 0)))))
theorem beqD {a b : Int} {p : Prop} [Decidable p] (h : a = b ↔ p) : (a == b) = decide p := by
  by_cases hp : p
  · rw [decide_eq_true hp, h.2 hp]; simp
  · rw [decide_eq_false hp, beq_eq_false_iff_ne]; exact fun e => hp (h.1 e)
theorem decD {p q : Prop} [Decidable p] [Decidable q] (h : p ↔ q) : decide p = decide q := by
  by_cases hp : p
  · rw [decide_eq_true hp, decide_eq_true (h.1 hp)]
  · rw [decide_eq_false hp, decide_eq_false (fun hq => hp (h.2 hq))]

set_option maxRecDepth 100000 in
theorem rmayG (w : World) (s o : Nat) (u : Bool) (hs : s < 18446744073709551616) (ho : o < 9223372036854775808) :
    Calls Try.prog 202 #[.agg #[.int .u64 (s : Int), .bool u, .int .i64 (o : Int)]] w fun e w' => e = .returned (.bool (mayG s u o)) ∧ Grow w w' := by
  have hg : Grow w (w.alloc (.cells #[.int .u64 (s : Int), .bool u, .int .i64 (o : Int)] 211)) := (Below.refl _ _).alloc (Nat.le_refl _) _
  have hB := World.alloc_heap_new w (.cells #[.int .u64 (s : Int), .bool u, .int .i64 (o : Int)] 211)
  have c0 : (w.alloc (.cells #[.int .u64 (s : Int), .bool u, .int .i64 (o : Int)] 211)).cell? ⟨w.heap.size, 0, none⟩ = some (.int .u64 (s : Int)) := by rw [cell_of_heap hB]; rfl
  have c1 : (w.alloc (.cells #[.int .u64 (s : Int), .bool u, .int .i64 (o : Int)] 211)).cell? ⟨w.heap.size, 1, none⟩ = some (.bool u) := by rw [cell_of_heap hB]; rfl
  have c2 : (w.alloc (.cells #[.int .u64 (s : Int), .bool u, .int .i64 (o : Int)] 211)).cell? ⟨w.heap.size, 2, none⟩ = some (.int .i64 (o : Int)) := by rw [cell_of_heap hB]; rfl
  clear hB
  have e1 : IntKind.u64.wrap ((s : Int) % 16) = ((s % 16 : Nat) : Int) := by rw [IntKind.wrap_u64]; omega
  have e2 : (s : Int) % 16 = ((s % 16 : Nat) : Int) := by omega
  have e3 : (s : Int).tmod 16 = ((s % 16 : Nat) : Int) := by rw [Int.tmod_eq_emod_of_nonneg (by omega)]; omega
  have e4 : IntKind.u64.wrap ((s % 16 : Nat) : Int) = ((s % 16 : Nat) : Int) := by rw [IntKind.wrap_u64]; omega
  have t1 : (((s % 16 : Nat) : Int) == 0) = decide (s % 16 = 0) := beqD (by omega)
  have t2 : decide ((48 : Int) ≤ (s : Int)) = decide (48 ≤ s) := decD (by omega)
  have t3 : decide ((s : Int) ≤ 1048576) = decide (s ≤ 1048576) := decD (by omega)
  have t4 : decide ((0 : Int) ≤ (o : Int)) = true := decide_eq_true (by omega)
  have t5 : decide ((o : Int) ≤ 8) = decide (o ≤ 8) := decD (by omega)
  have t6 : ((o : Int) == 0) = decide (o = 0) := beqD (by omega)
  unfold mayG
  generalize decide (s % 16 = 0) = b1 at *
  generalize decide (48 ≤ s) = b2 at *
  generalize decide (s ≤ 1048576) = b3 at *
  generalize decide (o ≤ 8) = b4 at *
  generalize decide (o = 0) = b5 at *
  generalize s % 16 = m at *
  cases b1
  · go_enter Try.func202, Try.ntmps202
    go_wp2
    go_ret
    exact ⟨rfl, hg⟩
  cases b2
  · go_enter Try.func202, Try.ntmps202
    go_wp2
    go_ret
    exact ⟨rfl, hg⟩
  cases b3
  · go_enter Try.func202, Try.ntmps202
    go_wp2
    go_ret
    exact ⟨rfl, hg⟩
  cases b4
  · go_enter Try.func202, Try.ntmps202
    go_wp2
    go_ret
    exact ⟨rfl, hg⟩
  cases u
  · cases b5
    · go_enter Try.func202, Try.ntmps202
      go_wp2
      go_ret
      exact ⟨rfl, hg⟩
    · go_enter Try.func202, Try.ntmps202
      go_wp2
      go_ret
      exact ⟨rfl, hg⟩
  · go_enter Try.func202, Try.ntmps202
    go_wp2
    go_ret
    exact ⟨rfl, hg⟩
end Go.Proofs.Ck

namespace Go.Proofs.Ck
open Go Go.RowKit

/-- A unit's word. -/
def packG (s : Nat) (u : Bool) (o : Nat) : Nat := if mayG s u o = true then s + o * 4294967296 + (if u = true then 1 else 0) else 0
theorem mayG_iff (s : Nat) (u : Bool) (o : Nat) : mayG s u o = true ↔ s % 16 = 0 ∧ 48 ≤ s ∧ s ≤ 1048576 ∧ o ≤ 8 ∧ (u = true ∨ o = 0) := by
  simp [mayG]
theorem packG_lt (s : Nat) (u : Bool) (o : Nat) : packG s u o < 38654705664 := by
  unfold packG
  split
  · rename_i h
    have := (mayG_iff s u o).1 h
    split <;> omega
  · omega

set_option maxRecDepth 100000 in
theorem rpackG (w : World) (s o : Nat) (u : Bool) (hs : s < 18446744073709551616) (ho : o < 9223372036854775808) :
    Calls Try.prog 204 #[.agg #[.int .u64 (s : Int), .bool u, .int .i64 (o : Int)]] w fun e w' => e = .returned (.int .u64 ((packG s u o : Nat) : Int)) ∧ Grow w w' := by
  have hg : Grow w (w.alloc (.cells #[.int .u64 (s : Int), .bool u, .int .i64 (o : Int)] 211)) := (Below.refl _ _).alloc (Nat.le_refl _) _
  have hB := World.alloc_heap_new w (.cells #[.int .u64 (s : Int), .bool u, .int .i64 (o : Int)] 211)
  have c0 : (w.alloc (.cells #[.int .u64 (s : Int), .bool u, .int .i64 (o : Int)] 211)).cell? ⟨w.heap.size, 0, none⟩ = some (.int .u64 (s : Int)) := by rw [cell_of_heap hB]; rfl
  have c1 : (w.alloc (.cells #[.int .u64 (s : Int), .bool u, .int .i64 (o : Int)] 211)).cell? ⟨w.heap.size, 1, none⟩ = some (.bool u) := by rw [cell_of_heap hB]; rfl
  have c2 : (w.alloc (.cells #[.int .u64 (s : Int), .bool u, .int .i64 (o : Int)] 211)).cell? ⟨w.heap.size, 2, none⟩ = some (.int .i64 (o : Int)) := by rw [cell_of_heap hB]; rfl
  have hm := rmayG (w.alloc (.cells #[.int .u64 (s : Int), .bool u, .int .i64 (o : Int)] 211)) s o u hs ho
  by_cases hy : mayG s u o = true
  · rw [hy] at hm
    have hf := (mayG_iff s u o).1 hy
    obtain ⟨M, hM⟩ : ∃ M, o * 4294967296 = M := ⟨_, rfl⟩
    have e0 : IntKind.u64.wrap (o : Int) = (o : Int) := by rw [IntKind.wrap_u64]; omega
    have e1 : IntKind.u64.wrap ((o : Int) * 4294967296) = (M : Int) := by rw [IntKind.wrap_u64]; omega
    obtain ⟨N, hN⟩ : ∃ N, s + M = N := ⟨_, rfl⟩
    have e2 : IntKind.u64.wrap ((s : Int) + (M : Int)) = (N : Int) := by rw [IntKind.wrap_u64]; omega
    have e3 : IntKind.u64.wrap ((N : Int) + 1) = ((N + 1 : Nat) : Int) := by rw [IntKind.wrap_u64]; omega
    have hP : packG s u o = if u = true then N + 1 else N := by
      rw [packG, if_pos hy, hM, hN]
      cases u <;> simp
    rw [hP]
    clear hP hM hN
    clear hf hy
    go_enter Try.func204, Try.ntmps204
    go_wp2_with fail
    generalize w.alloc (.cells #[.int .u64 (s : Int), .bool u, .int .i64 (o : Int)] 211) = wa at *
    refine hm.mono ?_
    rintro e w1 ⟨rfl, hg1⟩
    have hB1 := hg1.heap hB
    have hG := hg.trans hg1
    clear c0 c1 c2 hm
    have c0 : w1.cell? ⟨w.heap.size, 0, none⟩ = some (.int .u64 (s : Int)) := by rw [cell_of_heap hB1]; rfl
    have c1 : w1.cell? ⟨w.heap.size, 1, none⟩ = some (.bool u) := by rw [cell_of_heap hB1]; rfl
    have c2 : w1.cell? ⟨w.heap.size, 2, none⟩ = some (.int .i64 (o : Int)) := by rw [cell_of_heap hB1]; rfl
    cases u
    · go_wp2
      go_ret
      exact ⟨rfl, hG⟩
    · go_wp2
      go_ret
      exact ⟨rfl, hG⟩
  · rw [show mayG s u o = false from by simpa using hy] at hm
    rw [packG, if_neg hy]
    clear hy
    go_enter Try.func204, Try.ntmps204
    go_wp2_with fail
    generalize w.alloc (.cells #[.int .u64 (s : Int), .bool u, .int .i64 (o : Int)] 211) = wa at *
    refine hm.mono ?_
    rintro e w1 ⟨rfl, hg1⟩
    have hG := hg.trans hg1
    clear hm
    go_wp2
    go_ret
    exact ⟨rfl, hG⟩
end Go.Proofs.Ck

namespace Go.Proofs.Ck
open Go Go.RowKit

def unS (W : Nat) : Nat := W % 4294967296 - W % 4294967296 % 2
def unU (W : Nat) : Bool := decide (W % 4294967296 % 2 = 1)
def unO (W : Nat) : Nat := W / 4294967296 % 16
/-- Is a word a unit's? -/
def okG (W : Nat) : Bool := mayG (unS W) (unU W) (unO W) && decide (packG (unS W) (unU W) (unO W) = W)
def agG (s : Nat) (u : Bool) (o : Nat) : Array Value := #[.int .u64 (s : Int), .bool u, .int .i64 (o : Int)]
def unG (W : Nat) : Array Value := if okG W = true then agG (unS W) (unU W) (unO W) else #[.int .u64 0, .bool false, .int .i64 0]

theorem info211 : (Try.prog.info? 211).map (·.size) = some 3 := by kernel_rfl
theorem ret_unit {fn : Func} {R : Ending → World → Prop} {tmps : Array Value} {p u : Tmp} {W : World} {g : Nat} {cs : Array Value} {fr : Nat × Nat} {b : Bool} (hf : fn.results = #[.cell p 211, .tmp u])
    (hp : tmps.getD p undef = .pointer (some ⟨g, 0, none⟩)) (hu : tmps.getD u undef = .bool b) (hg : W.heap[g]? = some (.cells cs 211 fr)) (h2 : cs.size = 3) (hR : R (.returned (.tuple #[.agg cs, .bool b])) W) :
    bodyPost Try.prog fn R .ret ⟨tmps, []⟩ W := by
  refine bodyPost_ret (v := .tuple #[.agg cs, .bool b]) ?_ rfl hR
  have hp' : tmps[p]?.getD undef = .pointer (some ⟨g, 0, none⟩) := by simpa using hp
  have hu' : tmps[u]?.getD undef = .bool b := by simpa using hu
  rw [results_cell_tmp hf]
  simp [hp', hu', asAddr, Result.andThen, run_loadVar_row W g 211 211 cs fr _ hg Try.underlying211 rfl (info211.trans (by rw [h2]))]

set_option maxRecDepth 100000 in
theorem runpackG (w : World) (W : Nat) (hW : W < 18446744073709551616) :
    Calls Try.prog 207 #[.int .u64 (W : Int)] w fun e w' => e = .returned (.tuple #[.agg (unG W), .bool (okG W)]) ∧ Grow w w' := by
  have ho := fun w => rmayG w (unS W) (unO W) (unU W) (by unfold unS; omega) (by unfold unO; omega)
  have hp := fun w => rpackG w (unS W) (unO W) (unU W) (by unfold unS; omega) (by unfold unO; omega)
  have hmi := mayG_iff (unS W) (unU W) (unO W)
  have e1 : IntKind.u64.wrap ((W : Int) % 4294967296) = ((W % 4294967296 : Nat) : Int) := by rw [IntKind.wrap_u64]; omega
  have e2 : (W : Int) % 4294967296 = ((W % 4294967296 : Nat) : Int) := by omega
  have e3 : (W : Int).tmod 4294967296 = ((W % 4294967296 : Nat) : Int) := by rw [Int.tmod_eq_emod_of_nonneg (by omega)]; omega
  have hLl : W % 4294967296 < 4294967296 := Nat.mod_lt _ (by omega)
  have hU : unU W = decide (W % 4294967296 % 2 = 1) := rfl
  have hS : unS W = W % 4294967296 - W % 4294967296 % 2 := rfl
  have f4 : (W : Int) / 4294967296 = ((W / 4294967296 : Nat) : Int) := by omega
  have hO : unO W = W / 4294967296 % 16 := rfl
  have hG : unG W = if okG W = true then agG (unS W) (unU W) (unO W) else #[.int .u64 0, .bool false, .int .i64 0] := rfl
  have hK : okG W = (mayG (unS W) (unU W) (unO W) && decide (packG (unS W) (unU W) (unO W) = W)) := rfl
  have hQl : W / 4294967296 < 4294967296 := by omega
  rw [hG]
  clear hG
  rw [hK]
  clear hK hmi
  have hpl := packG_lt (unS W) (unU W) (unO W)
  generalize mayG (unS W) (unU W) (unO W) = y at *
  have t9 : (((packG (unS W) (unU W) (unO W) : Nat) : Int) == (W : Int)) = decide (packG (unS W) (unU W) (unO W) = W) := beqD (by omega)
  generalize packG (unS W) (unU W) (unO W) = P at *
  generalize decide (P = W) = z at *
  generalize unU W = U at *
  generalize unS W = S at *
  generalize unO W = O at *
  generalize W % 4294967296 = L at *
  generalize W / 4294967296 = Q at *
  have e4 : IntKind.u64.wrap (L : Int) = (L : Int) := by rw [IntKind.wrap_u64]; omega
  have g1 : (L : Int) % 2 = ((L % 2 : Nat) : Int) := by omega
  have g2 : (L : Int).tmod 2 = ((L % 2 : Nat) : Int) := by rw [Int.tmod_eq_emod_of_nonneg (by omega)]; omega
  have g3 : IntKind.u64.wrap ((L % 2 : Nat) : Int) = ((L % 2 : Nat) : Int) := by rw [IntKind.wrap_u64]; omega
  have g4 : IntKind.u64.wrap ((L : Int) - ((L % 2 : Nat) : Int)) = (S : Int) := by rw [IntKind.wrap_u64]; omega
  have g5 : (((L % 2 : Nat) : Int) == 1) = U := by rw [hU]; exact beqD (by omega)
  have f5 : IntKind.u64.wrap (Q : Int) = (Q : Int) := by rw [IntKind.wrap_u64]; omega
  have f1 : (Q : Int) % 16 = (O : Int) := by omega
  have f2 : (Q : Int).tmod 16 = (O : Int) := by rw [Int.tmod_eq_emod_of_nonneg (by omega)]; omega
  have f3 : IntKind.u64.wrap (O : Int) = (O : Int) := by rw [IntKind.wrap_u64]; omega
  have f6 : IntKind.i64.wrap (O : Int) = (O : Int) := by rw [IntKind.wrap_i64]; omega
  clear hU hS hO
  generalize L % 2 = m at *
  have hT := (Below.heap_alloc (w.alloc (.cells #[.int .u64 0, .bool false, .int .i64 0] 211)) (.cells (agG S U O) 211) w.heap.size (by simp)).trans (World.alloc_heap_new w (.cells #[.int .u64 0, .bool false, .int .i64 0] 211))
  have hB := World.alloc_heap_new (w.alloc (.cells #[.int .u64 0, .bool false, .int .i64 0] 211)) (.cells (agG S U O) 211)
  have hg : Grow w ((w.alloc (.cells #[.int .u64 0, .bool false, .int .i64 0] 211)).alloc (.cells (agG S U O) 211)) := ((Below.refl _ _).alloc (Nat.le_refl _) _).alloc (by simp) _
  rw [show (w.alloc (.cells #[.int .u64 0, .bool false, .int .i64 0] 211)).heap.size = w.heap.size + 1 from by simp] at hB
  have c0 := cell_of_heap hB 0
  have c1 := cell_of_heap hB 1
  have c2 := cell_of_heap hB 2
  simp only [agG] at c0 c1 c2 hT hB hg ⊢
  go_enter Try.func207, Try.ntmps207
  go_wp2_with fail
  generalize (w.alloc (.cells #[.int .u64 0, .bool false, .int .i64 0] 211)).alloc (.cells #[.int .u64 (S : Int), .bool U, .int .i64 (O : Int)] 211) = wa at *
  refine (ho wa).mono ?_
  rintro e w1 ⟨rfl, hg1⟩
  have hT1 := hg1.heap hT
  have hB1 := hg1.heap hB
  have hG1 := hg.trans hg1
  clear c0 c1 c2 hT hB hg hg1 ho
  have c0 : w1.cell? ⟨w.heap.size + 1, 0, none⟩ = some (.int .u64 (S : Int)) := by rw [cell_of_heap hB1]; rfl
  have c1 : w1.cell? ⟨w.heap.size + 1, 1, none⟩ = some (.bool U) := by rw [cell_of_heap hB1]; rfl
  have c2 : w1.cell? ⟨w.heap.size + 1, 2, none⟩ = some (.int .i64 (O : Int)) := by rw [cell_of_heap hB1]; rfl
  have z0 : w1.cell? ⟨w.heap.size, 0, none⟩ = some (.int .u64 0) := by rw [cell_of_heap hT1]; rfl
  have z1 : w1.cell? ⟨w.heap.size, 1, none⟩ = some (.bool false) := by rw [cell_of_heap hT1]; rfl
  have z2 : w1.cell? ⟨w.heap.size, 2, none⟩ = some (.int .i64 0) := by rw [cell_of_heap hT1]; rfl
  have Z0 := frozen_of_heap hT1 0
  have Z1 := frozen_of_heap hT1 1
  have Z2 := frozen_of_heap hT1 2
  cases y
  · go_wp2
    have hT2 := heap_setCell_row (heap_setCell_row (heap_setCell_row hT1 (i := 0) (.int .u64 0)) (i := 1) (.bool false)) (i := 2) (.int .i64 0)
    refine ret_unit (g := w.heap.size) rfl rfl rfl hT2 rfl ⟨rfl, ?_⟩
    exact ((hG1.setCell (Nat.le_refl _) _).setCell (Nat.le_refl _) _).setCell (Nat.le_refl _) _
  · go_wp2_with fail
    refine (hp w1).mono ?_
    rintro e w2 ⟨rfl, hg2⟩
    have hT3 := hg2.heap hT1
    have hB3 := hg2.heap hB1
    have hG2 := hG1.trans hg2
    clear c0 c1 c2 z0 z1 z2 Z0 Z1 Z2 hT1 hB1 hG1 hg2 hp
    have c0 : w2.cell? ⟨w.heap.size + 1, 0, none⟩ = some (.int .u64 (S : Int)) := by rw [cell_of_heap hB3]; rfl
    have c1 : w2.cell? ⟨w.heap.size + 1, 1, none⟩ = some (.bool U) := by rw [cell_of_heap hB3]; rfl
    have c2 : w2.cell? ⟨w.heap.size + 1, 2, none⟩ = some (.int .i64 (O : Int)) := by rw [cell_of_heap hB3]; rfl
    have z0 : w2.cell? ⟨w.heap.size, 0, none⟩ = some (.int .u64 0) := by rw [cell_of_heap hT3]; rfl
    have z1 : w2.cell? ⟨w.heap.size, 1, none⟩ = some (.bool false) := by rw [cell_of_heap hT3]; rfl
    have z2 : w2.cell? ⟨w.heap.size, 2, none⟩ = some (.int .i64 0) := by rw [cell_of_heap hT3]; rfl
    have Z0 := frozen_of_heap hT3 0
    have Z1 := frozen_of_heap hT3 1
    have Z2 := frozen_of_heap hT3 2
    cases z
    · go_wp2
      have hT2 := heap_setCell_row (heap_setCell_row (heap_setCell_row hT3 (i := 0) (.int .u64 0)) (i := 1) (.bool false)) (i := 2) (.int .i64 0)
      refine ret_unit (g := w.heap.size) rfl rfl rfl hT2 rfl ⟨rfl, ?_⟩
      exact ((hG2.setCell (Nat.le_refl _) _).setCell (Nat.le_refl _) _).setCell (Nat.le_refl _) _
    · go_wp2
      have hT2 := heap_setCell_row (heap_setCell_row (heap_setCell_row hT3 (i := 0) (.int .u64 (S : Int))) (i := 1) (.bool U)) (i := 2) (.int .i64 (O : Int))
      refine ret_unit (g := w.heap.size) rfl rfl rfl hT2 rfl ⟨rfl, ?_⟩
      exact ((hG2.setCell (Nat.le_refl _) _).setCell (Nat.le_refl _) _).setCell (Nat.le_refl _) _
end Go.Proofs.Ck

namespace Go.Proofs.Ck
open Go Go.RowKit

/-- Does so much lie in the room that ends at E? -/
def inG (E off size : Nat) : Bool := decide (off % 16 = 0) && (decide (3776 ≤ off) && (decide (off < E) && decide (size ≤ E - off)))

set_option maxRecDepth 100000 in
theorem rinG {rv : Value} {f : Nat → Nat} {w : World} {X : Nat → Prop} (h : RefF rv f w X) (off size E : Nat) (hE : f 16 = E) (hE2 : E < 18446744073709551616) (ho : off < 18446744073709551616) :
    Calls Try.prog 203 #[rv, .int .u64 (off : Int), .int .u64 (size : Int)] w fun e w' => e = .returned (.bool (inG E off size)) ∧ Grow w w' := by
  obtain ⟨A, n, c', B, m, d, rfl⟩ := h.agg
  have hga : Grow w (w.alloc (.cells #[.slice A n c', .slice B m d] 67)) := (Below.refl _ _).alloc (Nat.le_refl _) _
  have hl := (h.grow hga).load 16 (by omega)
  rw [hE] at hl
  have e1 : IntKind.u64.wrap ((off : Int) % 16) = ((off % 16 : Nat) : Int) := by rw [IntKind.wrap_u64]; omega
  have e2 : (off : Int) % 16 = ((off % 16 : Nat) : Int) := by omega
  have e3 : (off : Int).tmod 16 = ((off % 16 : Nat) : Int) := by rw [Int.tmod_eq_emod_of_nonneg (by omega)]; omega
  have e4 : IntKind.u64.wrap ((off % 16 : Nat) : Int) = ((off % 16 : Nat) : Int) := by rw [IntKind.wrap_u64]; omega
  have t1 : (((off % 16 : Nat) : Int) == 0) = decide (off % 16 = 0) := beqD (by omega)
  have t2 : decide ((3776 : Int) ≤ (off : Int)) = decide (3776 ≤ off) := decD (by omega)
  have t3 : decide ((off : Int) < (E : Int)) = decide (off < E) := decD (by omega)
  unfold inG
  clear h hE
  by_cases h3 : off < E
  · have e5 : IntKind.u64.wrap ((E : Int) - (off : Int)) = ((E - off : Nat) : Int) := by rw [IntKind.wrap_u64]; omega
    have t4 : decide ((size : Int) ≤ ((E - off : Nat) : Int)) = decide (size ≤ E - off) := decD (by omega)
    generalize E - off = D at *
    have t3n : decide (off < E) = true := decide_eq_true h3
    rw [t3n] at t3 ⊢
    clear h3
    obtain ⟨b4, t4n⟩ : ∃ b, decide (size ≤ D) = b := ⟨_, rfl⟩
    rw [t4n] at t4 ⊢
    generalize decide (off % 16 = 0) = b1 at *
    generalize decide (3776 ≤ off) = b2 at *
    generalize off % 16 = r at *
    cases b1 <;> cases b2 <;> cases b4 <;>
    · go_enter Try.func203, Try.ntmps203
      go_wp2_with fail
      refine hl.mono ?_
      rintro e w' ⟨rfl, hg⟩
      have hG := hga.trans hg
      clear hl hga hg
      go_wp2
      go_ret
      exact ⟨rfl, hG⟩
  · have t3n : decide (off < E) = false := decide_eq_false h3
    rw [t3n] at t3 ⊢
    clear h3
    rw [Bool.false_and]
    generalize decide (off % 16 = 0) = b1 at *
    generalize decide (3776 ≤ off) = b2 at *
    generalize off % 16 = r at *
    cases b1 <;> cases b2 <;>
    · go_enter Try.func203, Try.ntmps203
      go_wp2_with fail
      refine hl.mono ?_
      rintro e w' ⟨rfl, hg⟩
      have hG := hga.trans hg
      clear hl hga hg
      go_wp2
      go_ret
      exact ⟨rfl, hG⟩

end Go.Proofs.Ck
