/- Words: two words as a name: the program's. -/
import Derived.Test.YtpakfelekphbmaaName0
import Derived.Test.YtpakfelekphbmaaEq
namespace Go.Proofs.Ck
open Go Go.RowKit

section
variable {P : Program}
/-- 'append(s, x, y, ..)' of m elements, that lie in a block that has just been laid. -/
theorem wpList_pushN (m : Nat) (w : World) {W : World} {ops : Array Oper} {rest : List Oper} {o : Oper} {a : Act} {Q : Exit → Act → World → Prop} (hgd : o.guard = none) (s x : Operand) (t : TypeId)
    (ho : o.op = .call { callee := .builtin .append, args := #[s, x], argTypes := #[t, t] })
    (base : Nat) (e : TypeId) (i : TypeInfo) (z : Value) (size bytes : Nat) (ht : P.underlying t = some (.slice e)) (hi : P.info? e = some i) (hz : i.zero = some z)
    (hsize : i.size = size) (hby : i.bytes = bytes) (hzs : z.cells.size = size) (hsz : 0 < size)
    (v : Value) (n : Nat) (xs : List Value) (hs : a.eval s = v) (hown : w.ownsRow base e size v n xs)
    (cs : Array Value) (hx : a.eval x = .slice (some ⟨w.heap.size, 0, none⟩) m m) (hcs : cs.size = m * size) (h1 : ∀ u ∈ cs.toList, u.oneCell' = true)
    (hW : W = w.alloc (.cells cs e)) (h63 : n + m ≤ maxLen) (hbytes : (n + m) * bytes ≤ 140737488355328) (hbase : base ≤ w.heap.size)
    (h : ∀ v' w', w'.ownsRow base e size v' (n + m) (xs ++ cs.toList) → Only (fun b => v.ownBlock = some b) w w' → wpList P ops Q rest (a.put o.dst v') w') : wpList P ops Q (o :: rest) a W := by
  subst hW
  have hnew : (w.alloc (.cells cs e)).heap[w.heap.size]? = some (.cells cs e (0, 0)) := World.alloc_heap_new w _
  refine wpList_append_row (S := fun _ => True) (w.alloc (.cells cs e)) hgd s x t ho base e i z size bytes ht hi hz hsize hby hzs hsz v n xs hs (hown.alloc _)
    (some ⟨w.heap.size, 0, none⟩) m m cs.toList hx ⟨by simpa using hcs, fun _ => ⟨_, _, rfl, trivial, fun j u hj => ?_⟩⟩ (fun h => by cases h) h1 h63 hbytes (by simp; omega) fun v' w' r1 r2 => h v' w' r1 ?_
  · rw [cell_of_heap hnew]; simpa using hj
  · have r0 : Only (fun b => v.ownBlock = some b) w (w.alloc (.cells cs e)) := (Only.refl _ _).alloc _
    exact r0.trans r2
end
/-- The word that a byte stands in. -/
def wd (w0 w1 q : Nat) : Nat := if q = 0 then w0 else w1
theorem dg_wd (w0 w1 i : Nat) (hi : i < 16) : dg w0 w1 i = byteOf (wd w0 w1 (i / 8)) (i % 8) := by
  unfold dg wd
  by_cases h : i < 8
  · rw [if_pos h, if_pos (by omega)]
  · rw [if_neg h, if_neg (by omega)]

set_option maxRecDepth 100000 in
theorem name_at {w : World} {B i w0 w1 : Nat} (hB : w.heap[B]? = some (.cells #[.int .u64 (w0 : Int), .int .u64 (w1 : Int)] 37 (0, 0))) (hi : i < 16) {x : Int} (hx : x = (i : Int)) :
    Calls Try.prog 149 #[.int .i64 x, .pointer (some ⟨B, 0, none⟩)] w fun e w' => e = .returned (.int .u8 ((dg w0 w1 i : Nat) : Int)) ∧ w = w' := by
  subst hx
  have hcell : w.cell? ⟨B, i / 8, none⟩ = some (.int .u64 ((wd w0 w1 (i / 8) : Nat) : Int)) := by
    rw [cell_of_heap hB]
    rcases (show i / 8 = 0 ∨ i / 8 = 1 by omega) with h | h <;> rw [h] <;> rfl
  have q1 : IntKind.i64.wrap ((i : Int) / 8) = ((i / 8 : Nat) : Int) := by rw [IntKind.wrap_i64]; omega
  have r1 : IntKind.i64.wrap ((i : Int) % 8) = ((i % 8 : Nat) : Int) := by rw [IntKind.wrap_i64]; omega
  have r2 : (i : Int) % 8 = ((i % 8 : Nat) : Int) := by omega
  have r3 : (i : Int).tmod 8 = ((i % 8 : Nat) : Int) := by rw [Int.tmod_eq_emod_of_nonneg (by omega)]; omega
  have q2 : (i : Int) / 8 = ((i / 8 : Nat) : Int) := by omega
  have hq : i / 8 < 2 := by omega
  have hr : i % 8 < 8 := by omega
  rw [dg_wd w0 w1 i hi]
  generalize wd w0 w1 (i / 8) = V at *
  generalize i / 8 = q at *
  generalize i % 8 = r at *
  have al : Try.prog.arrayLen 37 = 2 := by kernel_rfl
  have hix : (0 : Int) ≤ (q : Int) ∧ (q : Int) < 2 := by omega
  have r4 : IntKind.i64.wrap (8 * (r : Int)) = ((8 * r : Nat) : Int) := by rw [IntKind.wrap_i64]; omega
  go_enter Try.func149, Try.ntmps149
  go_wp2
  go_ret
  refine ⟨?_, rfl⟩
  show Ending.returned (Value.int IntKind.u8 ((V : Int) / 2 ^ (8 * r) % 256)) = _
  congr 2
  exact (byteOf_int V r).symm



set_option maxRecDepth 100000 in
theorem pack_bad (s : ByteArray) (h : s.size < 1 ∨ 15 < s.size) (w : World) :
    Calls Try.prog 64 #[.string s] w fun e w' => e = .returned (.tuple #[.agg #[.int .u64 0, .int .u64 0], .bool false]) ∧ Grow w w' := by
  have hg0 : Grow w ((w.alloc (Obj.cells #[Value.int IntKind.u64 0, Value.int IntKind.u64 0] 37)).alloc (Obj.cells #[Value.int IntKind.u64 0, Value.int IntKind.u64 0] 37)) :=
    ((Below.refl _ _).alloc (Nat.le_refl _) _).alloc (by simp) _
  have hT : ((w.alloc (Obj.cells #[Value.int IntKind.u64 0, Value.int IntKind.u64 0] 37)).alloc (Obj.cells #[Value.int IntKind.u64 0, Value.int IntKind.u64 0] 37)).heap[w.heap.size]? = some (.cells #[Value.int IntKind.u64 0, Value.int IntKind.u64 0] 37 (0, 0)) :=
    (Below.heap_alloc _ _ _ (by simp)).trans (World.alloc_heap_new w _)
  by_cases h1 : s.size < 1
  · have t0 : decide ((s.size : Int) < 1) = true := decide_eq_true (by omega)
    go_enter Try.func64, Try.ntmps64
    go_wp2
    exact ret_pair (g := w.heap.size) rfl rfl rfl hT rfl ⟨rfl, hg0⟩
  · have t0 : decide ((s.size : Int) < 1) = false := decide_eq_false (by omega)
    have t1 : decide (15 < (s.size : Int)) = true := decide_eq_true (by omega)
    go_enter Try.func64, Try.ntmps64
    go_wp2
    exact ret_pair (g := w.heap.size) rfl rfl rfl hT rfl ⟨rfl, hg0⟩

set_option maxRecDepth 100000 in
set_option maxHeartbeats 4000000 in
theorem name_call (w : World) (w0 w1 : Nat) (h0 : w0 < 18446744073709551616) (h1 : w1 < 18446744073709551616) :
    Calls Try.prog 66 #[.agg #[.int .u64 (w0 : Int), .int .u64 (w1 : Int)]] w fun e w' => e = .returned (.tuple #[.string (nameOf w0 w1), .bool (decide (isName w0 w1))]) ∧ Grow w w' := by
  obtain ⟨i5, hi5, hz5, hs5, hb5⟩ := info_parts info5
  have hga : Grow w (w.alloc (.cells #[.int .u64 (w0 : Int), .int .u64 (w1 : Int)] 37)) := (Below.refl _ _).alloc (Nat.le_refl _) _
  have hB := World.alloc_heap_new w (.cells #[.int .u64 (w0 : Int), .int .u64 (w1 : Int)] 37)
  have hd := dg_lt w0 w1 0
  have ha0 := name_at hB (i := 0) (by omega) (x := 0) rfl
  by_cases hn : isName w0 w1
  · rw [decide_eq_true hn, show nameOf w0 w1 = strOf (bl w0 w1 (dg w0 w1 0)) from if_pos hn]
    have hn1 := hn.1
    have hn2 := hn.2.1
    have HN := Lib.hid hn
    clear hn
    obtain ⟨D, hD⟩ : ∃ D, dg w0 w1 0 = D := ⟨_, rfl⟩
    have HNN := Lib.hid (show D = min (dg w0 w1 0) 15 by omega)
    rw [hD] at ha0 hd hn1 hn2 ⊢
    have hd15 : ¬ (15 : Int) < D := by omega
    clear hD
    go_enter Try.func66, Try.ntmps66
    go_wp2_with fail
    generalize w.alloc (.cells #[.int .u64 (w0 : Int), .int .u64 (w1 : Int)] 37) = wa at *
    refine ha0.mono ?_
    rintro e w' ⟨rfl, rfl⟩
    clear ha0
    go_wp2_with fail
    go_loopw [5, 14] (fun s i wr => ∃ k : Nat, k ≤ D ∧ i = .int .i64 (k : Int) ∧ Grow wa wr ∧ wr.ownsRow wa.heap.size 5 1 s k (u8s (bl w0 w1 k))) (fun _ i _ => D - (intOf i).toNat)
    case atStart => exact ⟨0, Nat.zero_le _, rfl, Below.refl _ _, World.ownsRow_nil _ _ _ _⟩
    case round =>
      obtain ⟨k, hk, rfl, hg, hown⟩ := hrel
      by_cases hlt : k < D
      · have HS := Lib.hid (bl_succ w0 w1 k)
        have ha := name_at (hg.heap hB) (i := k + 1) (by omega) (x := (k : Int) + 1) (by omega)
        have hd2 := dg_lt w0 w1 (k + 1)
        generalize dg w0 w1 (k + 1) = y at *
        generalize bl w0 w1 k = L at *
        have g0 : decide ((k : Int) < D) = true := decide_eq_true (by omega)
        have hbase := hg.size
        go_wp2_with fail
        refine ha.mono ?_
        rintro e w' ⟨rfl, rfl⟩
        clear ha
        go_wp2_with (at_builtin; refine wpList_pushN 1 wr rfl (.tmp 17) (.tmp 22) 30 rfl wa.heap.size 5 i5 (.int .u8 0) 1 1 Try.underlying30 hi5 hz5 hs5 hb5 rfl (by decide) u5 k _ rfl hown #[.int .u8 (y : Int)] rfl rfl (by simp [Value.oneCell']) rfl (by unfold maxLen; omega) (by omega) hbase ?_)
        intro v' w5 hown5 ho5
        obtain ⟨A', c', rfl⟩ : ∃ A c, v' = .slice A (k + 1) c := by
          obtain ⟨g, c, _, e, _⟩ := own_form hown5 (by omega)
          exact ⟨_, c, e⟩
        have hg7 : Grow wa w5 := grow_own hg hown ho5
        clear hown ho5 hg
        go_wp2
        go_roundw
        case rel =>
          refine ⟨k + 1, by omega, by go_num, hg7, ?_⟩
          rw [HS.out, u8s_append]
          exact hown5
        case measure => simp [intOf]; omega
      · obtain rfl : D = k := by omega
        have g0 : decide (((D : Nat) : Int) < D) = false := decide_eq_false (by omega)
        obtain ⟨Z, z, rfl, -, -, hr⟩ := Row.of_own hown
        have hBr := hg.heap hB
        have hgw := hga.trans hg
        clear hown
        have hln := bl_length w0 w1 D
        have hconv := run_string (show Byts (fun b => wa.heap.size ≤ b) wr Z (bl w0 w1 D) from by
          show Row _ _ _ (bl w0 w1 D).length 1 _
          rw [hln]; exact hr) (n := D) (c := z) hln
        have hsz := strOf_size (bl w0 w1 D)
        rw [hln] at hsz
        have hconvA : ∀ (w7 : World), Grow wr w7 → (convert 30 9 (.slice Z D z)).run Try.prog w7 = .ok (.string (strOf (bl w0 w1 D))) w7 := fun w7 hg7 => run_string (show Byts (fun b => wa.heap.size ≤ b) w7 Z (bl w0 w1 D) from by
          show Row _ _ _ (bl w0 w1 D).length 1 _
          rw [hln]; exact hr.grow hg7) (n := D) (c := z) hln
        have hlt8 := nm_strOf (bl_lt w0 w1 D)
        have hpk := pack_ok (strOf (bl w0 w1 D)) (by omega) (by omega) wr
        have hif := packs_iff (n := D) h0 h1 HNN.out (by omega)
        have hpd : packed (nm (strOf (bl w0 w1 D))) = #[.int .u64 ((pk ((nm (strOf (bl w0 w1 D))).take 8) : Nat) : Int), .int .u64 ((pk ((nm (strOf (bl w0 w1 D))).drop 8) : Nat) : Int)] := rfl
        rw [hpd] at hpk
        clear hpd hlt8
        generalize pk ((nm (strOf (bl w0 w1 D))).take 8) = a at *
        generalize pk ((nm (strOf (bl w0 w1 D))).drop 8) = b at *
        have hpost : strOf (bl w0 w1 D) = strOf (bl w0 w1 D) := rfl
        generalize hst : strOf (bl w0 w1 D) = str at hpk hif hconvA hconv hsz
        have HST := Lib.hid hst
        clear hst hpost
        have HIF := Lib.hid hif
        clear hif hsz hr hln
        go_wp2_with fail
        refine hpk.mono ?_
        rintro e w6 ⟨rfl, hg6⟩
        have hB6 := hg6.heap hBr
        have hgn := hg6.trans ((Below.refl _ _).alloc (Nat.le_refl _) (Obj.cells #[.int .u64 (a : Int), .int .u64 (b : Int)] 37))
        have hgz := hgw.trans hgn
        have hc2 := hconvA _ hgn
        have hB7 := (Below.heap_alloc w6 (Obj.cells #[.int .u64 (a : Int), .int .u64 (b : Int)] 37) w.heap.size (lt_of_heap hB6)).trans hB6
        have b0 : (w6.alloc (Obj.cells #[.int .u64 (a : Int), .int .u64 (b : Int)] 37)).cell? ⟨w.heap.size, 0, none⟩ = some (.int .u64 (w0 : Int)) := by rw [cell_of_heap hB7]; rfl
        have b1 : (w6.alloc (Obj.cells #[.int .u64 (a : Int), .int .u64 (b : Int)] 37)).cell? ⟨w.heap.size, 1, none⟩ = some (.int .u64 (w1 : Int)) := by rw [cell_of_heap hB7]; rfl
        have b2 : (w6.alloc (Obj.cells #[.int .u64 (a : Int), .int .u64 (b : Int)] 37)).cell? ⟨w6.heap.size, 0, none⟩ = some (.int .u64 (a : Int)) := by rw [cell_of_heap (World.alloc_heap_new w6 _)]; rfl
        have b3 : (w6.alloc (Obj.cells #[.int .u64 (a : Int), .int .u64 (b : Int)] 37)).cell? ⟨w6.heap.size, 1, none⟩ = some (.int .u64 (b : Int)) := by rw [cell_of_heap (World.alloc_heap_new w6 _)]; rfl
        clear hpk hconvA hconv
        obtain ⟨hea, heb⟩ := HIF.out.2 HN.out
        subst hea heb
        go_wp2
        go_ret2
        refine ⟨?_, hgz⟩
        rw [HST.out]
        rfl
  · rw [decide_eq_false hn, show nameOf w0 w1 = ByteArray.empty from if_neg hn]
    have HN := Lib.hid hn
    clear hn
    obtain ⟨D, hD⟩ : ∃ D, dg w0 w1 0 = D := ⟨_, rfl⟩
    by_cases hz : D = 0
    · subst hz
      rw [hD] at ha0
      clear hD hd
      go_enter Try.func66, Try.ntmps66
      go_wp2_with fail
      generalize w.alloc (.cells #[.int .u64 (w0 : Int), .int .u64 (w1 : Int)] 37) = wa at *
      refine ha0.mono ?_
      rintro e w' ⟨rfl, rfl⟩
      clear ha0
      go_wp2_with fail
      go_loopw [5, 14] (fun s i wr => ∃ k : Nat, k ≤ 0 ∧ i = .int .i64 (k : Int) ∧ Grow wa wr ∧ wr.ownsRow wa.heap.size 5 1 s k (u8s (bl w0 w1 k))) (fun _ i _ => 0 - (intOf i).toNat)
      case atStart => exact ⟨0, Nat.zero_le _, rfl, Below.refl _ _, World.ownsRow_nil _ _ _ _⟩
      case round =>
        obtain ⟨k, hk, rfl, hg, hown⟩ := hrel
        by_cases hlt : k < 0
        · exact absurd hlt (by omega)
        · obtain rfl : 0 = k := by omega
          have g0 : decide (((0 : Nat) : Int) < 0) = false := decide_eq_false (by omega)
          obtain ⟨Z, z, rfl, -, -, hr⟩ := Row.of_own hown
          have hBr := hg.heap hB
          have hgw := hga.trans hg
          clear hown
          have hln := bl_length w0 w1 0
          have hconv := run_string (show Byts (fun b => wa.heap.size ≤ b) wr Z (bl w0 w1 0) from by
            show Row _ _ _ (bl w0 w1 0).length 1 _
            rw [hln]; exact hr) (n := 0) (c := z) hln
          have hsz := strOf_size (bl w0 w1 0)
          rw [hln] at hsz
          have hpk := pack_bad (strOf (bl w0 w1 0)) (by omega) wr
          clear hsz hr hln
          generalize strOf (bl w0 w1 0) = str at *
          go_wp2_with fail
          refine hpk.mono ?_
          rintro e w6 ⟨rfl, hg6⟩
          have hgz := hgw.trans (hg6.trans ((Below.refl _ _).alloc (Nat.le_refl _) (Obj.cells #[.int .u64 0, .int .u64 0] 37)))
          clear hpk hconv
          go_wp2
          go_ret2
          exact ⟨rfl, hgz⟩
    · by_cases h15 : D ≤ 15
      · have HNN := Lib.hid (show D = min (dg w0 w1 0) 15 by omega)
        rw [hD] at ha0 hd
        have hd15 : ¬ (15 : Int) < D := by omega
        clear hD
        go_enter Try.func66, Try.ntmps66
        go_wp2_with fail
        generalize w.alloc (.cells #[.int .u64 (w0 : Int), .int .u64 (w1 : Int)] 37) = wa at *
        refine ha0.mono ?_
        rintro e w' ⟨rfl, rfl⟩
        clear ha0
        go_wp2_with fail
        go_loopw [5, 14] (fun s i wr => ∃ k : Nat, k ≤ D ∧ i = .int .i64 (k : Int) ∧ Grow wa wr ∧ wr.ownsRow wa.heap.size 5 1 s k (u8s (bl w0 w1 k))) (fun _ i _ => D - (intOf i).toNat)
        case atStart => exact ⟨0, Nat.zero_le _, rfl, Below.refl _ _, World.ownsRow_nil _ _ _ _⟩
        case round =>
          obtain ⟨k, hk, rfl, hg, hown⟩ := hrel
          by_cases hlt : k < D
          · have HS := Lib.hid (bl_succ w0 w1 k)
            have ha := name_at (hg.heap hB) (i := k + 1) (by omega) (x := (k : Int) + 1) (by omega)
            have hd2 := dg_lt w0 w1 (k + 1)
            generalize dg w0 w1 (k + 1) = y at *
            generalize bl w0 w1 k = L at *
            have g0 : decide ((k : Int) < D) = true := decide_eq_true (by omega)
            have hbase := hg.size
            go_wp2_with fail
            refine ha.mono ?_
            rintro e w' ⟨rfl, rfl⟩
            clear ha
            go_wp2_with (at_builtin; refine wpList_pushN 1 wr rfl (.tmp 17) (.tmp 22) 30 rfl wa.heap.size 5 i5 (.int .u8 0) 1 1 Try.underlying30 hi5 hz5 hs5 hb5 rfl (by decide) u5 k _ rfl hown #[.int .u8 (y : Int)] rfl rfl (by simp [Value.oneCell']) rfl (by unfold maxLen; omega) (by omega) hbase ?_)
            intro v' w5 hown5 ho5
            obtain ⟨A', c', rfl⟩ : ∃ A c, v' = .slice A (k + 1) c := by
              obtain ⟨g, c, _, e, _⟩ := own_form hown5 (by omega)
              exact ⟨_, c, e⟩
            have hg7 : Grow wa w5 := grow_own hg hown ho5
            clear hown ho5 hg
            go_wp2
            go_roundw
            case rel =>
              refine ⟨k + 1, by omega, by go_num, hg7, ?_⟩
              rw [HS.out, u8s_append]
              exact hown5
            case measure => simp [intOf]; omega
          · obtain rfl : D = k := by omega
            have g0 : decide (((D : Nat) : Int) < D) = false := decide_eq_false (by omega)
            obtain ⟨Z, z, rfl, -, -, hr⟩ := Row.of_own hown
            have hBr := hg.heap hB
            have hgw := hga.trans hg
            clear hown
            have hln := bl_length w0 w1 D
            have hconv := run_string (show Byts (fun b => wa.heap.size ≤ b) wr Z (bl w0 w1 D) from by
              show Row _ _ _ (bl w0 w1 D).length 1 _
              rw [hln]; exact hr) (n := D) (c := z) hln
            have hsz := strOf_size (bl w0 w1 D)
            rw [hln] at hsz
            have hconvA : ∀ (w7 : World), Grow wr w7 → (convert 30 9 (.slice Z D z)).run Try.prog w7 = .ok (.string (strOf (bl w0 w1 D))) w7 := fun w7 hg7 => run_string (show Byts (fun b => wa.heap.size ≤ b) w7 Z (bl w0 w1 D) from by
              show Row _ _ _ (bl w0 w1 D).length 1 _
              rw [hln]; exact hr.grow hg7) (n := D) (c := z) hln
            have hlt8 := nm_strOf (bl_lt w0 w1 D)
            have hpk := pack_ok (strOf (bl w0 w1 D)) (by omega) (by omega) wr
            have hif := packs_iff (n := D) h0 h1 HNN.out (by omega)
            have hpd : packed (nm (strOf (bl w0 w1 D))) = #[.int .u64 ((pk ((nm (strOf (bl w0 w1 D))).take 8) : Nat) : Int), .int .u64 ((pk ((nm (strOf (bl w0 w1 D))).drop 8) : Nat) : Int)] := rfl
            rw [hpd] at hpk
            clear hpd hlt8
            generalize pk ((nm (strOf (bl w0 w1 D))).take 8) = a at *
            generalize pk ((nm (strOf (bl w0 w1 D))).drop 8) = b at *
            generalize strOf (bl w0 w1 D) = str at *
            have HIF := Lib.hid hif
            clear hif hsz hr hln
            go_wp2_with fail
            refine hpk.mono ?_
            rintro e w6 ⟨rfl, hg6⟩
            have hB6 := hg6.heap hBr
            have hgn := hg6.trans ((Below.refl _ _).alloc (Nat.le_refl _) (Obj.cells #[.int .u64 (a : Int), .int .u64 (b : Int)] 37))
            have hgz := hgw.trans hgn
            have hc2 := hconvA _ hgn
            have hB7 := (Below.heap_alloc w6 (Obj.cells #[.int .u64 (a : Int), .int .u64 (b : Int)] 37) w.heap.size (lt_of_heap hB6)).trans hB6
            have b0 : (w6.alloc (Obj.cells #[.int .u64 (a : Int), .int .u64 (b : Int)] 37)).cell? ⟨w.heap.size, 0, none⟩ = some (.int .u64 (w0 : Int)) := by rw [cell_of_heap hB7]; rfl
            have b1 : (w6.alloc (Obj.cells #[.int .u64 (a : Int), .int .u64 (b : Int)] 37)).cell? ⟨w.heap.size, 1, none⟩ = some (.int .u64 (w1 : Int)) := by rw [cell_of_heap hB7]; rfl
            have b2 : (w6.alloc (Obj.cells #[.int .u64 (a : Int), .int .u64 (b : Int)] 37)).cell? ⟨w6.heap.size, 0, none⟩ = some (.int .u64 (a : Int)) := by rw [cell_of_heap (World.alloc_heap_new w6 _)]; rfl
            have b3 : (w6.alloc (Obj.cells #[.int .u64 (a : Int), .int .u64 (b : Int)] 37)).cell? ⟨w6.heap.size, 1, none⟩ = some (.int .u64 (b : Int)) := by rw [cell_of_heap (World.alloc_heap_new w6 _)]; rfl
            clear hpk hconvA hconv
            have hne : ¬ (a = w0 ∧ b = w1) := fun hh => HN.out (HIF.out.1 hh)
            by_cases hea : a = w0
            · subst hea
              have t3 : ((b : Int) == w1) = false := by rw [beq_eq_false_iff_ne]; intro e; exact hne ⟨rfl, by omega⟩
              have t4 : ((a : Int) == a) = true := by simp
              clear hne
              go_wp2
              go_ret2
              exact ⟨rfl, hgz⟩
            · have t3 : ((a : Int) == w0) = false := by rw [beq_eq_false_iff_ne]; omega
              clear hne hea
              go_wp2
              go_ret2
              exact ⟨rfl, hgz⟩
      · have HNN := Lib.hid (show 15 = min (dg w0 w1 0) 15 by omega)
        rw [hD] at ha0 hd
        have hd15 : (15 : Int) < D := by omega
        clear hD
        go_enter Try.func66, Try.ntmps66
        go_wp2_with fail
        generalize w.alloc (.cells #[.int .u64 (w0 : Int), .int .u64 (w1 : Int)] 37) = wa at *
        refine ha0.mono ?_
        rintro e w' ⟨rfl, rfl⟩
        clear ha0
        go_wp2_with fail
        go_loopw [5, 14] (fun s i wr => ∃ k : Nat, k ≤ 15 ∧ i = .int .i64 (k : Int) ∧ Grow wa wr ∧ wr.ownsRow wa.heap.size 5 1 s k (u8s (bl w0 w1 k))) (fun _ i _ => 15 - (intOf i).toNat)
        case atStart => exact ⟨0, Nat.zero_le _, rfl, Below.refl _ _, World.ownsRow_nil _ _ _ _⟩
        case round =>
          obtain ⟨k, hk, rfl, hg, hown⟩ := hrel
          by_cases hlt : k < 15
          · have HS := Lib.hid (bl_succ w0 w1 k)
            have ha := name_at (hg.heap hB) (i := k + 1) (by omega) (x := (k : Int) + 1) (by omega)
            have hd2 := dg_lt w0 w1 (k + 1)
            generalize dg w0 w1 (k + 1) = y at *
            generalize bl w0 w1 k = L at *
            have g0 : decide ((k : Int) < 15) = true := decide_eq_true (by omega)
            have hbase := hg.size
            go_wp2_with fail
            refine ha.mono ?_
            rintro e w' ⟨rfl, rfl⟩
            clear ha
            go_wp2_with (at_builtin; refine wpList_pushN 1 wr rfl (.tmp 17) (.tmp 22) 30 rfl wa.heap.size 5 i5 (.int .u8 0) 1 1 Try.underlying30 hi5 hz5 hs5 hb5 rfl (by decide) u5 k _ rfl hown #[.int .u8 (y : Int)] rfl rfl (by simp [Value.oneCell']) rfl (by unfold maxLen; omega) (by omega) hbase ?_)
            intro v' w5 hown5 ho5
            obtain ⟨A', c', rfl⟩ : ∃ A c, v' = .slice A (k + 1) c := by
              obtain ⟨g, c, _, e, _⟩ := own_form hown5 (by omega)
              exact ⟨_, c, e⟩
            have hg7 : Grow wa w5 := grow_own hg hown ho5
            clear hown ho5 hg
            go_wp2
            go_roundw
            case rel =>
              refine ⟨k + 1, by omega, by go_num, hg7, ?_⟩
              rw [HS.out, u8s_append]
              exact hown5
            case measure => simp [intOf]; omega
          · obtain rfl : 15 = k := by omega
            have g0 : decide (((15 : Nat) : Int) < 15) = false := decide_eq_false (by omega)
            obtain ⟨Z, z, rfl, -, -, hr⟩ := Row.of_own hown
            have hBr := hg.heap hB
            have hgw := hga.trans hg
            clear hown
            have hln := bl_length w0 w1 15
            have hconv := run_string (show Byts (fun b => wa.heap.size ≤ b) wr Z (bl w0 w1 15) from by
              show Row _ _ _ (bl w0 w1 15).length 1 _
              rw [hln]; exact hr) (n := 15) (c := z) hln
            have hsz := strOf_size (bl w0 w1 15)
            rw [hln] at hsz
            have hconvA : ∀ (w7 : World), Grow wr w7 → (convert 30 9 (.slice Z 15 z)).run Try.prog w7 = .ok (.string (strOf (bl w0 w1 15))) w7 := fun w7 hg7 => run_string (show Byts (fun b => wa.heap.size ≤ b) w7 Z (bl w0 w1 15) from by
              show Row _ _ _ (bl w0 w1 15).length 1 _
              rw [hln]; exact hr.grow hg7) (n := 15) (c := z) hln
            have hlt8 := nm_strOf (bl_lt w0 w1 15)
            have hpk := pack_ok (strOf (bl w0 w1 15)) (by omega) (by omega) wr
            have hif := packs_iff (n := 15) h0 h1 HNN.out (by omega)
            have hpd : packed (nm (strOf (bl w0 w1 15))) = #[.int .u64 ((pk ((nm (strOf (bl w0 w1 15))).take 8) : Nat) : Int), .int .u64 ((pk ((nm (strOf (bl w0 w1 15))).drop 8) : Nat) : Int)] := rfl
            rw [hpd] at hpk
            clear hpd hlt8
            generalize pk ((nm (strOf (bl w0 w1 15))).take 8) = a at *
            generalize pk ((nm (strOf (bl w0 w1 15))).drop 8) = b at *
            generalize strOf (bl w0 w1 15) = str at *
            have HIF := Lib.hid hif
            clear hif hsz hr hln
            go_wp2_with fail
            refine hpk.mono ?_
            rintro e w6 ⟨rfl, hg6⟩
            have hB6 := hg6.heap hBr
            have hgn := hg6.trans ((Below.refl _ _).alloc (Nat.le_refl _) (Obj.cells #[.int .u64 (a : Int), .int .u64 (b : Int)] 37))
            have hgz := hgw.trans hgn
            have hc2 := hconvA _ hgn
            have hB7 := (Below.heap_alloc w6 (Obj.cells #[.int .u64 (a : Int), .int .u64 (b : Int)] 37) w.heap.size (lt_of_heap hB6)).trans hB6
            have b0 : (w6.alloc (Obj.cells #[.int .u64 (a : Int), .int .u64 (b : Int)] 37)).cell? ⟨w.heap.size, 0, none⟩ = some (.int .u64 (w0 : Int)) := by rw [cell_of_heap hB7]; rfl
            have b1 : (w6.alloc (Obj.cells #[.int .u64 (a : Int), .int .u64 (b : Int)] 37)).cell? ⟨w.heap.size, 1, none⟩ = some (.int .u64 (w1 : Int)) := by rw [cell_of_heap hB7]; rfl
            have b2 : (w6.alloc (Obj.cells #[.int .u64 (a : Int), .int .u64 (b : Int)] 37)).cell? ⟨w6.heap.size, 0, none⟩ = some (.int .u64 (a : Int)) := by rw [cell_of_heap (World.alloc_heap_new w6 _)]; rfl
            have b3 : (w6.alloc (Obj.cells #[.int .u64 (a : Int), .int .u64 (b : Int)] 37)).cell? ⟨w6.heap.size, 1, none⟩ = some (.int .u64 (b : Int)) := by rw [cell_of_heap (World.alloc_heap_new w6 _)]; rfl
            clear hpk hconvA hconv
            have hne : ¬ (a = w0 ∧ b = w1) := fun hh => HN.out (HIF.out.1 hh)
            by_cases hea : a = w0
            · subst hea
              have t3 : ((b : Int) == w1) = false := by rw [beq_eq_false_iff_ne]; intro e; exact hne ⟨rfl, by omega⟩
              have t4 : ((a : Int) == a) = true := by simp
              clear hne
              go_wp2
              go_ret2
              exact ⟨rfl, hgz⟩
            · have t3 : ((a : Int) == w0) = false := by rw [beq_eq_false_iff_ne]; omega
              clear hne hea
              go_wp2
              go_ret2
              exact ⟨rfl, hgz⟩
end Go.Proofs.Ck
