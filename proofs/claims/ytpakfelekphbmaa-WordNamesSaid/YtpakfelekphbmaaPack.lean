/- Words: a name as two words. -/
import Derived.Test.YtpakfelekphbmaaPack1
import Derived.Lib.Hide
import Derived.Laws.ResultCell
import Derived.Laws.Rows
namespace Go.Proofs.Ck
open Go Go.RowKit
open Go.Proofs.Ytpakfelekphbmaa

/-- A name's bytes, behind their number. -/
def nm (s : ByteArray) : List Nat := s.size :: s.data.toList.map (·.toNat)
theorem nm_length (s : ByteArray) : (nm s).length = s.size + 1 := by simp [nm]
theorem nm_lt {s : ByteArray} (h : s.size < 256) : ∀ b ∈ nm s, b < 256 := by
  intro b hb
  rcases List.mem_cons.1 hb with rfl | hb
  · exact h
  · obtain ⟨x, _, rfl⟩ := List.mem_map.1 hb
    exact x.toNat_lt
theorem nm_take (s : ByteArray) (k : Nat) (h : k < s.size) : (nm s).take (k + 2) = (nm s).take (k + 1) ++ [s[k].toNat] := by
  have e : k < s.data.toList.length := by simpa using h
  rw [nm, List.take_succ_cons, List.take_succ_cons, List.cons_append, List.take_succ_eq_append_getElem (by simpa using h)]
  simp
  rfl

theorem info37 : (Try.prog.info? 37).map (·.size) = some 2 := by kernel_rfl
/-- A pair of words and a truth come back, the pair out of a cell. -/
theorem ret_pair {fn : Func} {R : Ending → World → Prop} {tmps : Array Value} {p u : Tmp} {W : World} {g : Nat} {cs : Array Value} {fr : Nat × Nat} {b : Bool} (hf : fn.results = #[.cell p 37, .tmp u])
    (hp : tmps.getD p undef = .pointer (some ⟨g, 0, none⟩)) (hu : tmps.getD u undef = .bool b) (hg : W.heap[g]? = some (.cells cs 37 fr)) (h2 : cs.size = 2) (hR : R (.returned (.tuple #[.agg cs, .bool b])) W) :
    bodyPost Try.prog fn R .ret ⟨tmps, []⟩ W := by
  refine bodyPost_ret (v := .tuple #[.agg cs, .bool b]) ?_ rfl hR
  have hp' : tmps[p]?.getD undef = .pointer (some ⟨g, 0, none⟩) := by simpa using hp
  have hu' : tmps[u]?.getD undef = .bool b := by simpa using hu
  rw [results_cell_tmp hf]
  simp [hp', hu', asAddr, Result.andThen, run_loadVar_row W g 37 37 cs fr _ hg Try.underlying37 rfl (info37.trans (by rw [h2]))]

set_option maxRecDepth 100000 in
theorem pack_ok (s : ByteArray) (h1 : 1 ≤ s.size) (h15 : s.size ≤ 15) (w : World) :
    Calls Try.prog 64 #[.string s] w fun e w' => e = .returned (.tuple #[.agg (packed (nm s)), .bool true]) ∧ Grow w w' := by
  have t0 : decide ((s.size : Int) < 1) = false := decide_eq_false (by omega)
  have t1 : decide (15 < (s.size : Int)) = false := decide_eq_false (by omega)
  have c0 : IntKind.u8.wrap (s.size : Int) = (s.size : Int) := by rw [IntKind.wrap_u8]; omega
  go_enter Try.func64, Try.ntmps64
  go_wp2_with fail
  have hg0 : Grow w ((w.alloc (Obj.cells #[Value.int IntKind.u64 0, Value.int IntKind.u64 0] 37)).alloc (Obj.cells #[Value.int IntKind.u64 0, Value.int IntKind.u64 0] 37)) :=
    ((Below.refl _ _).alloc (Nat.le_refl _) _).alloc (by simp) _
  have hB : ((w.alloc (Obj.cells #[Value.int IntKind.u64 0, Value.int IntKind.u64 0] 37)).alloc (Obj.cells #[Value.int IntKind.u64 0, Value.int IntKind.u64 0] 37)).heap[w.heap.size + 1]? = some (.cells (packed []) 37 (0, 0)) := by
    have := World.alloc_heap_new (w.alloc (Obj.cells #[Value.int IntKind.u64 0, Value.int IntKind.u64 0] 37)) (Obj.cells #[Value.int IntKind.u64 0, Value.int IntKind.u64 0] 37)
    rw [show (w.alloc (Obj.cells #[Value.int IntKind.u64 0, Value.int IntKind.u64 0] 37)).heap.size = w.heap.size + 1 from by simp] at this
    exact this
  have hT : ((w.alloc (Obj.cells #[Value.int IntKind.u64 0, Value.int IntKind.u64 0] 37)).alloc (Obj.cells #[Value.int IntKind.u64 0, Value.int IntKind.u64 0] 37)).heap[w.heap.size]? = some (.cells #[Value.int IntKind.u64 0, Value.int IntKind.u64 0] 37 (0, 0)) :=
    (Below.heap_alloc _ _ _ (by simp)).trans (World.alloc_heap_new w _)
  generalize (w.alloc (Obj.cells #[Value.int IntKind.u64 0, Value.int IntKind.u64 0] 37)).alloc (Obj.cells #[Value.int IntKind.u64 0, Value.int IntKind.u64 0] 37) = W0 at hg0 hB hT ⊢
  have hnl := nm_length s
  have hnb := nm_lt (s := s) (by omega)
  refine (pack_one (i := 0) hB rfl (by simp) (by simp) (c := s.size) (by omega)).mono ?_
  rintro e W1 ⟨rfl, hB1, ho1⟩
  have hg1 : Grow w W1 := Below.trans hg0 (ho1.below hg0.size (fun k hk => by omega))
  have hT1 := ho1.heap hT (by omega)
  rw [show [] ++ [s.size] = (nm s).take 1 from rfl] at hB1
  clear hg0 hB hT ho1
  go_wp2_with fail
  go_loopw [24] (fun i wr => ∃ k : Nat, k ≤ s.size ∧ i = .int .i64 (k : Int) ∧ Grow w wr ∧ wr.heap[w.heap.size + 1]? = some (.cells (packed ((nm s).take (k + 1))) 37 (0, 0)) ∧
      wr.heap[w.heap.size]? = some (.cells #[Value.int IntKind.u64 0, Value.int IntKind.u64 0] 37 (0, 0)))
    (fun i _ => s.size - (intOf i).toNat)
  case atStart => exact ⟨0, by omega, rfl, hg1, hB1, hT1⟩
  case round =>
    obtain ⟨k, hk, rfl, hg, hBk, hTk⟩ := hrel
    by_cases hlt : k < s.size
    · have hts := nm_take s k hlt
      have hc := s[k].toNat_lt
      generalize hy : s[k] = y at hts hc
      go_wp2_with fail
      have hp := pack_one (i := k + 1) hBk (by rw [List.length_take]; omega) (by rw [List.length_take]; omega) (fun b hb => hnb b (List.mem_of_mem_take hb)) (c := y.toNat) (by omega)
      rw [← hts] at hp
      refine (show Calls _ _ #[.int .i64 ((k : Int) + 1), _, _] _ _ from hp).mono ?_
      rintro e wn ⟨rfl, hBn, hon⟩
      have hgn : Grow w wn := Below.trans hg (hon.below hg.size (fun k hk => by omega))
      have hTn := hon.heap hTk (by omega)
      clear hp hBk hon hTk hg hts
      go_wp2
      go_roundw
      case rel => exact ⟨k + 1, by omega, by go_num, hgn, hBn, hTn⟩
      case measure => simp [intOf]; omega
    · obtain rfl : k = s.size := by omega
      rw [List.take_of_length_le (by omega)] at hBk
      have b0 : wr.cell? ⟨w.heap.size + 1, 0, none⟩ = some (.int .u64 ((pk ((nm s).take 8) : Nat) : Int)) := by rw [cell_of_heap hBk]; rfl
      have b1 : wr.cell? ⟨w.heap.size + 1, 1, none⟩ = some (.int .u64 ((pk ((nm s).drop 8) : Nat) : Int)) := by rw [cell_of_heap hBk]; rfl
      have T0 : wr.cell? ⟨w.heap.size, 0, none⟩ = some (.int .u64 0) := by rw [cell_of_heap hTk]; rfl
      have T1 : wr.cell? ⟨w.heap.size, 1, none⟩ = some (.int .u64 0) := by rw [cell_of_heap hTk]; rfl
      have F0 := frozen_of_heap hTk 0
      have F1 := frozen_of_heap hTk 1
      have hpk : packed (nm s) = #[.int .u64 ((pk ((nm s).take 8) : Nat) : Int), .int .u64 ((pk ((nm s).drop 8) : Nat) : Int)] := rfl
      generalize pk ((nm s).take 8) = p0 at b0 hpk
      generalize pk ((nm s).drop 8) = p1 at b1 hpk
      go_wp2
      have hT2 := heap_setCell_row (heap_setCell_row hTk (i := 0) (.int .u64 (p0 : Int))) (i := 1) (.int .u64 (p1 : Int))
      refine ret_pair (g := w.heap.size) rfl rfl rfl hT2 rfl ⟨by rw [hpk]; rfl, ?_⟩
      exact (hg.setCell (Nat.le_refl _) _).setCell (Nat.le_refl _) _
end Go.Proofs.Ck
