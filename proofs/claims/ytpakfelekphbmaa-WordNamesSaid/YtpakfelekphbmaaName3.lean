/- Words: a name as two words: the reference's loop. -/
import Derived.Test.YtpakfelekphbmaaName2
namespace Go.Proofs.Ck
open Go Go.RowKit

set_option maxRecDepth 100000 in
set_option maxHeartbeats 4000000 in
theorem rpack_ok (s : ByteArray) (h1 : 1 ≤ s.size) (h15 : s.size ≤ 15) (w : World) :
    Calls Try.prog 65 #[.string s] w fun e w' => e = .returned (.tuple #[.agg (packed (nm s)), .bool true]) ∧ Grow w w' := by
  obtain ⟨i5, hi5, hz5, hs5, hb5⟩ := info_parts info5
  have t0 : decide ((s.size : Int) < 1) = false := decide_eq_false (by omega)
  have t1 : decide (15 < (s.size : Int)) = false := decide_eq_false (by omega)
  have c0 : IntKind.u8.wrap (s.size : Int) = (s.size : Int) := by rw [IntKind.wrap_u8]; omega
  have hnl := nm_length s
  have hnb := nm_lt (s := s) (by omega)
  have hT0 := World.alloc_heap_new w (Obj.cells #[Value.int IntKind.u64 0, Value.int IntKind.u64 0] 37)
  have hg0 : Grow w (w.alloc (Obj.cells #[Value.int IntKind.u64 0, Value.int IntKind.u64 0] 37)) := (Below.refl _ _).alloc (Nat.le_refl _) _
  have hsz : (w.alloc (Obj.cells #[Value.int IntKind.u64 0, Value.int IntKind.u64 0] 37)).heap.size = w.heap.size + 1 := by simp
  go_enter Try.func65, Try.ntmps65
  go_wp2_with fail
  generalize w.alloc (Obj.cells #[Value.int IntKind.u64 0, Value.int IntKind.u64 0] 37) = wa at *
  have hcv := Lib.run_convert_string_bytes (P := Try.prog) (wa.alloc (Obj.cells #[Value.int IntKind.u8 (s.size : Int)] 5)) 9 30 5 s (u := .string) Try.underlying9 Try.underlying30 Try.underlying5
  have hsz2 : (wa.alloc (Obj.cells #[Value.int IntKind.u8 (s.size : Int)] 5)).heap.size = w.heap.size + 2 := by simp [hsz]
  have hR := strRow (wa.alloc (Obj.cells #[Value.int IntKind.u8 (s.size : Int)] 5)) s
  rw [hsz2] at hcv hR
  have hG1 : Grow w (wa.alloc (Obj.cells #[Value.int IntKind.u8 (s.size : Int)] 5)) := hg0.alloc (by omega) _
  have hG := hG1.trans (strGrow (wa.alloc (Obj.cells #[Value.int IntKind.u8 (s.size : Int)] 5)) s)
  have hT1 := (strGrow (wa.alloc (Obj.cells #[Value.int IntKind.u8 (s.size : Int)] 5)) s).heap ((Below.heap_alloc _ _ _ (by omega)).trans hT0)
  have hown1 : (wa.alloc (Obj.cells #[Value.int IntKind.u8 (s.size : Int)] 5)).ownsRow w.heap.size 5 1 (.slice (some ⟨w.heap.size + 1, 0, none⟩) 1 1) 1 [Value.int IntKind.u8 (s.size : Int)] := by
    have := World.ownsRow_lit (base := w.heap.size) (e := 5) (size := 1) wa #[Value.int IntKind.u8 (s.size : Int)] 1 (by omega) (by decide) rfl
    rw [hsz] at this
    exact this
  have hown2 := own_grow hown1 (strGrow (wa.alloc (Obj.cells #[Value.int IntKind.u8 (s.size : Int)] 5)) s)
  clear hG1 hown1 hT0 hg0
  generalize Lib.bytesWorld (wa.alloc (Obj.cells #[Value.int IntKind.u8 (s.size : Int)] 5)) 5 s = w3 at *
  generalize grownCap (wa.alloc (Obj.cells #[Value.int IntKind.u8 (s.size : Int)] 5)) s.size 0 5 = cap at *
  have hbase := hG.size
  rw [hcv]
  clear hcv hsz hsz2
  go_wp2_with (at_builtin; go_loud (refine wpList_append_row w3 rfl (.tmp 19) (.tmp 21) 30 rfl w.heap.size 5 i5 (.int .u8 0) 1 1 Try.underlying30 hi5 hz5 hs5 hb5 rfl (by decide) _ 1 _ rfl hown2 (some ⟨w.heap.size + 2, 0, none⟩) s.size cap _ rfl hR (fun h => by cases h) (u8s_one _) (by unfold maxLen; omega) (by omega) hbase ?_))
  intro v' w4 hown4 ho4
  have hg4 : Grow w w4 := grow_own hG hown2 ho4
  have hT4 := ho4.heap hT1 (by intro h; simp [Value.ownBlock] at h)
  have hown5 : w4.ownsRow w.heap.size 5 1 v' (1 + s.size) (u8s (nm s)) := hown4
  obtain ⟨g4, c4, cur, rfl, hg4b, hH4, hle, -, hz4, hcur⟩ := own_form hown5 (by omega)
  clear hown4 ho4 hG hT1 hown2 hR hown5
  have hsz4 := hg4.size
  have hT5 := (Below.heap_alloc w4 (Obj.cells #[Value.int IntKind.u64 0, Value.int IntKind.u64 0] 37) _ (lt_of_heap hT4)).trans hT4
  have hH5 := (Below.heap_alloc w4 (Obj.cells #[Value.int IntKind.u64 0, Value.int IntKind.u64 0] 37) _ (lt_of_heap hH4)).trans hH4
  have hB5 : (w4.alloc (Obj.cells #[Value.int IntKind.u64 0, Value.int IntKind.u64 0] 37)).heap[w4.heap.size]? = some (.cells (cfrom (nm s) (s.size + 1)) 37 (0, 0)) := by
    rw [← hnl, cfrom_all (nm s) (by omega)]
    exact World.alloc_heap_new w4 _
  have hg5 : Grow w (w4.alloc (Obj.cells #[Value.int IntKind.u64 0, Value.int IntKind.u64 0] 37)) := hg4.alloc hsz4 _
  have hlt4 := lt_of_heap hH4
  have hltT := lt_of_heap hT4
  go_wp2_with fail
  generalize w4.alloc (Obj.cells #[Value.int IntKind.u64 0, Value.int IntKind.u64 0] 37) = w5 at *
  generalize w4.heap.size = B5 at *
  clear hT4 hH4 hg4
  have hcur2 : ∀ j, j < (nm s).length → cur[j]? = some (Value.int IntKind.u8 (((nm s).getD j 0 : Nat) : Int)) := fun j hj => hcur j _ (by simp [u8s, List.getD, hj])
  clear hcur
  have hpk : cfrom (nm s) 0 = packed (nm s) := rfl
  generalize hlnm : nm s = l at *
  have HL := Lib.hid hlnm
  clear hlnm
  go_loopw [6] (fun i wr => ∃ (k : Nat) (x : Int), k ≤ s.size + 1 ∧ i = .int .i64 x ∧ x = (k : Int) - 1 ∧ Grow w wr ∧ wr.heap[B5]? = some (.cells (cfrom l k) 37 (0, 0)) ∧ wr.heap[g4]? = some (.cells cur 5 (0, 0)) ∧
      wr.heap[w.heap.size]? = some (.cells #[Value.int IntKind.u64 0, Value.int IntKind.u64 0] 37 (0, 0)))
    (fun i _ => (intOf i + 1).toNat)
  case atStart => exact ⟨s.size + 1, (s.size : Int), by omega, by go_num, by omega, hg5, hB5, hH5, hT5⟩
  case round =>
    obtain ⟨k, x, hk, rfl, hx, hg, hBk, hHk, hTk⟩ := hrel
    clear hg5 hB5 hH5 hT5
    rcases k with _ | j
    · have g0 : decide (0 ≤ x) = false := decide_eq_false (by omega)
      clear hx hk
      rw [hpk] at hBk
      have b0 : wr.cell? ⟨B5, 0, none⟩ = some (.int .u64 ((pk (l.take 8) : Nat) : Int)) := by rw [cell_of_heap hBk]; rfl
      have b1 : wr.cell? ⟨B5, 1, none⟩ = some (.int .u64 ((pk (l.drop 8) : Nat) : Int)) := by rw [cell_of_heap hBk]; rfl
      have T0 : wr.cell? ⟨w.heap.size, 0, none⟩ = some (.int .u64 0) := by rw [cell_of_heap hTk]; rfl
      have T1 : wr.cell? ⟨w.heap.size, 1, none⟩ = some (.int .u64 0) := by rw [cell_of_heap hTk]; rfl
      have F0 := frozen_of_heap hTk 0
      have F1 := frozen_of_heap hTk 1
      have hpk2 : packed l = #[.int .u64 ((pk (l.take 8) : Nat) : Int), .int .u64 ((pk (l.drop 8) : Nat) : Int)] := rfl
      clear hpk hcur2
      generalize pk (l.take 8) = p0 at *
      generalize pk (l.drop 8) = p1 at *
      go_wp2
      have hT2 := heap_setCell_row (heap_setCell_row hTk (i := 0) (.int .u64 (p0 : Int))) (i := 1) (.int .u64 (p1 : Int))
      refine ret_pair (g := w.heap.size) rfl rfl rfl hT2 rfl ⟨by rw [HL.out, hpk2]; rfl, ?_⟩
      exact (hg.setCell (Nat.le_refl _) _).setCell (Nat.le_refl _) _
    · obtain rfl : x = (j : Int) := by omega
      have hst := cfrom_step (l := l) (j := j) (by omega) (by omega)
      have hgt := cfrom_get (l := l) (j := j) (k := j + 1) (by omega)
      have hcj := hcur2 j (by omega)
      have hb := hnb (l.getD j 0) (by rw [List.getD_eq_getElem?_getD, List.getElem?_eq_getElem (by omega)]; exact List.getElem_mem _)
      have hlt := wfrom_lt (l := l) (j / 8) j (by omega) hnb
      rw [wfrom_same (l := l) (j := j) (by omega) (by omega)] at hlt
      have hcell : wr.cell? ⟨B5, j / 8, none⟩ = some (.int .u64 (wfrom l (j / 8) (j + 1) : Int)) := by rw [cell_of_heap hBk]; exact hgt
      have hcell2 : wr.cell? ⟨g4, j, none⟩ = some (.int .u8 ((l.getD j 0 : Nat) : Int)) := by rw [cell_of_heap hHk]; exact hcj
      have hfr := frozen_of_heap hBk (j / 8)
      clear hgt hcj hcur2 hpk
      have hS : cfrom l j = (cfrom l (j + 1)).setIfInBounds (j / 8) (.int .u64 ((l.getD j 0 + 256 * wfrom l (j / 8) (j + 1) : Nat) : Int)) := hst.symm
      clear hst
      have g0 : decide (0 ≤ (j : Int)) = true := decide_eq_true (by omega)
      have q1 : IntKind.i64.wrap ((j : Int) / 8) = ((j / 8 : Nat) : Int) := by rw [IntKind.wrap_i64]; omega
      have q2 : (j : Int) / 8 = ((j / 8 : Nat) : Int) := by omega
      have m1 : IntKind.u64.wrap (256 * (wfrom l (j / 8) (j + 1) : Int)) = ((256 * wfrom l (j / 8) (j + 1) : Nat) : Int) := by rw [IntKind.wrap_u64]; omega
      have m2 : IntKind.u64.wrap (((256 * wfrom l (j / 8) (j + 1) : Nat) : Int) + ((l.getD j 0 : Nat) : Int)) = ((l.getD j 0 + 256 * wfrom l (j / 8) (j + 1) : Nat) : Int) := by rw [IntKind.wrap_u64]; omega
      have c1 : IntKind.u64.wrap ((l.getD j 0 : Nat) : Int) = ((l.getD j 0 : Nat) : Int) := by rw [IntKind.wrap_u64]; omega
      have hq : j / 8 < 2 := by omega
      have al : Try.prog.arrayLen 37 = 2 := by kernel_rfl
      have hjx : (0 : Int) ≤ (j : Int) ∧ (j : Int) < 1 + (s.size : Int) := by omega
      have hjd : decide ((j : Int) < 1 + (s.size : Int)) = true := decide_eq_true (by omega)
      have hj63 : (j : Int) < 9223372036854775808 := by omega
      generalize (l.getD j 0 + 256 * wfrom l (j / 8) (j + 1)) = R at *
      generalize (256 * wfrom l (j / 8) (j + 1)) = M at *
      generalize wfrom l (j / 8) (j + 1) = V at *
      generalize l.getD j 0 = y at *
      generalize cfrom l (j + 1) = cs at *
      generalize hcl : cfrom l j = cs' at *
      have HS := Lib.hid hS
      have HC := Lib.hid hcl
      clear hS hcl
      generalize hqd : j / 8 = q at *
      have HQ := Lib.hid hqd
      clear hqd
      have hix : (0:Int) ≤ (q : Int) ∧ (q : Int) < 2 := by omega
      have hd : decide ((q : Int) < 2) = true := decide_eq_true (by omega)
      have hd0 : decide (0 ≤ (q : Int)) = true := decide_eq_true (by omega)
      have q3 : IntKind.i64.wrap (q : Int) = (q : Int) := by rw [IntKind.wrap_i64]; omega
      clear hx
      go_wp2_with fail
      go_still_tail 14, (by kernel_rfl)
      change wpList _ _ _ _ _ wr.drew
      have hg' : Grow w wr.drew := hg.drew
      have hB' : wr.drew.heap[B5]? = some (.cells cs 37 (0, 0)) := hBk
      have hH' : wr.drew.heap[g4]? = some (.cells cur 5 (0, 0)) := hHk
      have hT' : wr.drew.heap[w.heap.size]? = some (.cells #[Value.int IntKind.u64 0, Value.int IntKind.u64 0] 37 (0, 0)) := hTk
      have hcell' : wr.drew.cell? ⟨B5, q, none⟩ = some (.int .u64 (V : Int)) := hcell
      have hfr' : wr.drew.frozen? ⟨B5, q, none⟩ = false := hfr
      clear hcell hfr hBk hHk hTk hg hcell2
      generalize wr.drew = w2 at *
      go_wp2
      go_roundw
      case rel =>
        have o := (Only.refl (fun b => b = B5) w2).setCell (p := ⟨B5, q, none⟩) rfl (.int .u64 (R : Int))
        refine ⟨j, (j : Int) - 1, by omega, by go_num, rfl, hg'.setCell hsz4 _, ?_, o.heap hH' (by omega), o.heap hT' (by omega)⟩
        rw [HC.out, HS.out]
        exact heap_setCell_row hB' _
      case measure => simp [intOf]
end Go.Proofs.Ck
