/- Parts of the proofs of this seat's laws. -/
import Derived.Test.YtpakfelekphbmaaGTx
import Derived.StillTailTactics
import Derived.Lib.Hide
import Derived.Laws.ResultCell
import Derived.Laws.Rows
import Derived.Test.YtpakfelekphbmaaGSeg
import Derived.Test.YtpakfelekphbmaaRows
import Derived.Laws.StructEq
import Derived.Lib.ConvBytes

namespace Go.Proofs.Ck
open Go Go.RowKit
open Go.Proofs.Ytpakfelekphbmaa

set_option maxRecDepth 100000 in
theorem pack1 {w : World} {B i c v : Nat} {cs : Array Value} (hB : w.heap[B]? = some (.cells cs 37 (0, 0))) (hi : i < 16) (hc : c < 256) (hv : cs[i / 8]? = some (.int .u64 (v : Int))) (hv2 : v < 256 ^ (i % 8)) :
    Calls Try.prog 148 #[.int .i64 (i : Int), .int .u8 (c : Int), .pointer (some ⟨B, 0, none⟩)] w fun e w' => e = .returned (.tuple #[]) ∧
      w'.heap[B]? = some (.cells (cs.setIfInBounds (i / 8) (.int .u64 ((v + c * 256 ^ (i % 8) : Nat) : Int))) 37 (0, 0)) ∧ Only (· = B) w w' := by
  have hcell : w.cell? ⟨B, i / 8, none⟩ = some (.int .u64 (v : Int)) := by rw [cell_of_heap hB]; exact hv
  have hfr := frozen_of_heap hB (i / 8)
  have q1 : IntKind.i64.wrap ((i : Int) / 8) = ((i / 8 : Nat) : Int) := by rw [IntKind.wrap_i64]; omega
  have r1 : IntKind.i64.wrap ((i : Int) % 8) = ((i % 8 : Nat) : Int) := by rw [IntKind.wrap_i64]; omega
  have r2 : (i : Int) % 8 = ((i % 8 : Nat) : Int) := by omega
  have r3 : (i : Int).tmod 8 = ((i % 8 : Nat) : Int) := by rw [Int.tmod_eq_emod_of_nonneg (by omega)]; omega
  have c1 : IntKind.u64.wrap (c : Int) = (c : Int) := by rw [IntKind.wrap_u64]; omega
  have r4 : IntKind.i64.wrap (8 * ((i % 8 : Nat) : Int)) = ((8 * (i % 8) : Nat) : Int) := by rw [IntKind.wrap_i64]; omega
  have hq : i / 8 < 2 := by omega
  have hr : i % 8 < 8 := by omega
  have hpow : 256 ^ (i % 8) ≤ 72057594037927936 := Nat.pow_le_pow_right (by omega) (show i % 8 ≤ 7 by omega)
  have hcv : c * 256 ^ (i % 8) ≤ 255 * 256 ^ (i % 8) := Nat.mul_le_mul_right _ (by omega)
  have e256 : (256 : Nat) ^ (i % 8) = 2 ^ (8 * (i % 8)) := by rw [Nat.pow_mul]
  have sh : IntKind.u64.wrap ((c : Int) * 2 ^ (8 * ((i % 8 : Nat) : Int)).toNat) = ((c * 256 ^ (i % 8) : Nat) : Int) := by
    have e1 : (8 * ((i % 8 : Nat) : Int)).toNat = 8 * (i % 8) := by omega
    have e2 : (c : Int) * 2 ^ (8 * (i % 8)) = ((c * 256 ^ (i % 8) : Nat) : Int) := by rw [e256]; simp
    rw [e1, e2, IntKind.wrap_u64]
    omega
  have orr : bits .or .u64 (v : Int) ((c * 256 ^ (i % 8) : Nat) : Int) = ((v + c * 256 ^ (i % 8) : Nat) : Int) := by
    rw [u64_or_nat _ _ (by omega) (by omega)]
    congr 1
    rw [Nat.or_comm, Nat.add_comm]
    have := Nat.two_pow_add_eq_or_of_lt (i := 8 * (i % 8)) (b := v) (by rw [← e256]; exact hv2) c
    rw [← e256, Nat.mul_comm] at this
    exact this.symm
  clear e256
  generalize c * 256 ^ (i % 8) = m at *
  generalize i / 8 = q at *
  generalize i % 8 = r at *
  go_enter Try.func148, Try.ntmps148
  go_wp2
  have al : Try.prog.arrayLen 37 = 2 := by kernel_rfl
  have hix : (0 : Int) ≤ (q : Int) ∧ (q : Int) < 2 := by omega
  have hd : decide ((q : Int) < 2) = true := decide_eq_true (by omega)
  have hd0 : decide (0 ≤ (q : Int)) = true := decide_eq_true (by omega)
  go_still_tail 12, (by kernel_rfl)
  change wpList _ _ _ _ _ w.drew
  have hB' : w.drew.heap[B]? = some (.cells cs 37 (0, 0)) := hB
  have ho : Only (· = B) w w.drew := (Only.refl _ _).drew
  have hcell' : w.drew.cell? ⟨B, q, none⟩ = some (.int .u64 (v : Int)) := hcell
  have hfr' : w.drew.frozen? ⟨B, q, none⟩ = false := hfr
  clear hcell hfr hB
  generalize w.drew = w2 at *
  go_wp2
  go_end0
  exact ⟨rfl, heap_setCell_row hB' _, ho.setCell rfl _⟩

/-- A number out of its bytes, the least first. -/
def pk : List Nat → Nat
  | [] => 0
  | b :: l => b + 256 * pk l
theorem pk_snoc (c : Nat) : ∀ l : List Nat, pk (l ++ [c]) = pk l + c * 256 ^ l.length
  | [] => by simp [pk]
  | b :: l => by
    rw [List.cons_append, pk, pk_snoc c l, pk, List.length_cons, Nat.pow_succ]
    rw [Nat.mul_add, Nat.add_assoc]
    congr 2
    rw [Nat.mul_left_comm, Nat.mul_comm 256]
theorem pk_lt : ∀ l : List Nat, (∀ b ∈ l, b < 256) → pk l < 256 ^ l.length
  | [], _ => by simp [pk]
  | b :: l, h => by
    have := pk_lt l (fun x hx => h x (by simp [hx]))
    have hb := h b (by simp)
    rw [pk, List.length_cons, Nat.pow_succ]
    omega
def packed (l : List Nat) : Array Value := #[.int .u64 ((pk (l.take 8) : Nat) : Int), .int .u64 ((pk (l.drop 8) : Nat) : Int)]

theorem packed_snoc {l : List Nat} (hl : l.length < 16) (c : Nat) :
    (packed l).setIfInBounds (l.length / 8) (.int .u64 (((if l.length < 8 then pk (l.take 8) else pk (l.drop 8)) + c * 256 ^ (l.length % 8) : Nat) : Int)) = packed (l ++ [c]) := by
  unfold packed
  by_cases h : l.length < 8
  · rw [if_pos h, show l.length / 8 = 0 from by omega, show l.length % 8 = l.length from by omega]
    rw [List.take_of_length_le (by omega), List.take_of_length_le (by simp; omega), List.drop_of_length_le (by omega), List.drop_of_length_le (by simp; omega), pk_snoc]
    rfl
  · rw [if_neg h, show l.length / 8 = 1 from by omega, show l.length % 8 = (l.drop 8).length from by simp; omega]
    rw [List.take_append_of_le_length (by omega), List.drop_append_of_le_length (by omega), pk_snoc]
    rfl
theorem packed_get {l : List Nat} (hl : l.length < 16) : (packed l)[l.length / 8]? = some (.int .u64 (((if l.length < 8 then pk (l.take 8) else pk (l.drop 8)) : Nat) : Int)) := by
  unfold packed
  by_cases h : l.length < 8
  · rw [if_pos h, show l.length / 8 = 0 from by omega]; rfl
  · rw [if_neg h, show l.length / 8 = 1 from by omega]; rfl

theorem pack_one {w : World} {B c i : Nat} {l : List Nat} (hB : w.heap[B]? = some (.cells (packed l) 37 (0, 0))) (hi : i = l.length) (hl : l.length < 16) (hb : ∀ b ∈ l, b < 256) (hc : c < 256) :
    Calls Try.prog 148 #[.int .i64 (i : Int), .int .u8 (c : Int), .pointer (some ⟨B, 0, none⟩)] w fun e w' => e = .returned (.tuple #[]) ∧
      w'.heap[B]? = some (.cells (packed (l ++ [c])) 37 (0, 0)) ∧ Only (· = B) w w' := by
  subst hi
  rw [← packed_snoc hl]
  refine pack1 hB hl hc (packed_get hl) ?_
  by_cases h : l.length < 8
  · rw [if_pos h, List.take_of_length_le (by omega), show l.length % 8 = l.length from by omega]
    exact pk_lt l hb
  · rw [if_neg h, show l.length % 8 = (l.drop 8).length from by simp; omega]
    exact pk_lt _ (fun x hx => hb x (List.mem_of_mem_drop hx))
end Go.Proofs.Ck

namespace Go.Proofs.Ck
open Go Go.RowKit
open Go.Proofs.Ytpakfelekphbmaa

/-- A name's bytes, behind their number. -/
def nm (s : ByteArray) : List Nat := s.size :: s.data.toList.map (·.toNat)
theorem nm_length (s : ByteArray) : (nm s).length = s.size + 1 := by simp [nm]
theorem nm_lt {s : ByteArray} (h : s.size < 256) : ∀ b ∈ nm s, b < 256 := by
  intro b hb
  rcases List.mem_cons.1 hb with rfl | hb
  · exact h
  · obtain ⟨x, _, rfl⟩ := List.mem_map.1 hb
    exact x.toNat_lt
theorem nm_take (s : ByteArray) (k : Nat) (h : k < s.size) : (nm s).take (k + 2) = (nm s).take (k + 1) ++ [s[k].toNat] := by
  have e : k < s.data.toList.length := by simpa using h
  rw [nm, List.take_succ_cons, List.take_succ_cons, List.cons_append, List.take_succ_eq_append_getElem (by simpa using h)]
  simp
  rfl

theorem info37 : (Try.prog.info? 37).map (·.size) = some 2 := by kernel_rfl
/-- A pair of words and a truth come back, the pair out of a cell. -/
theorem ret_pair {fn : Func} {R : Ending → World → Prop} {tmps : Array Value} {p u : Tmp} {W : World} {g : Nat} {cs : Array Value} {fr : Nat × Nat} {b : Bool} (hf : fn.results = #[.cell p 37, .tmp u])
    (hp : tmps.getD p undef = .pointer (some ⟨g, 0, none⟩)) (hu : tmps.getD u undef = .bool b) (hg : W.heap[g]? = some (.cells cs 37 fr)) (h2 : cs.size = 2) (hR : R (.returned (.tuple #[.agg cs, .bool b])) W) :
    bodyPost Try.prog fn R .ret ⟨tmps, []⟩ W := by
  refine bodyPost_ret (v := .tuple #[.agg cs, .bool b]) ?_ rfl hR
  have hp' : tmps[p]?.getD undef = .pointer (some ⟨g, 0, none⟩) := by simpa using hp
  have hu' : tmps[u]?.getD undef = .bool b := by simpa using hu
  rw [results_cell_tmp hf]
  simp [hp', hu', asAddr, Result.andThen, run_loadVar_row W g 37 37 cs fr _ hg Try.underlying37 rfl (info37.trans (by rw [h2]))]

set_option maxRecDepth 100000 in
theorem pack_ok (s : ByteArray) (h1 : 1 ≤ s.size) (h15 : s.size ≤ 15) (w : World) :
    Calls Try.prog 64 #[.string s] w fun e w' => e = .returned (.tuple #[.agg (packed (nm s)), .bool true]) ∧ Grow w w' := by
  have t0 : decide ((s.size : Int) < 1) = false := decide_eq_false (by omega)
  have t1 : decide (15 < (s.size : Int)) = false := decide_eq_false (by omega)
  have c0 : IntKind.u8.wrap (s.size : Int) = (s.size : Int) := by rw [IntKind.wrap_u8]; omega
  go_enter Try.func64, Try.ntmps64
  go_wp2_with fail
  have hg0 : Grow w ((w.alloc (Obj.cells #[Value.int IntKind.u64 0, Value.int IntKind.u64 0] 37)).alloc (Obj.cells #[Value.int IntKind.u64 0, Value.int IntKind.u64 0] 37)) :=
    ((Below.refl _ _).alloc (Nat.le_refl _) _).alloc (by simp) _
  have hB : ((w.alloc (Obj.cells #[Value.int IntKind.u64 0, Value.int IntKind.u64 0] 37)).alloc (Obj.cells #[Value.int IntKind.u64 0, Value.int IntKind.u64 0] 37)).heap[w.heap.size + 1]? = some (.cells (packed []) 37 (0, 0)) := by
    have := World.alloc_heap_new (w.alloc (Obj.cells #[Value.int IntKind.u64 0, Value.int IntKind.u64 0] 37)) (Obj.cells #[Value.int IntKind.u64 0, Value.int IntKind.u64 0] 37)
    rw [show (w.alloc (Obj.cells #[Value.int IntKind.u64 0, Value.int IntKind.u64 0] 37)).heap.size = w.heap.size + 1 from by simp] at this
    exact this
  have hT : ((w.alloc (Obj.cells #[Value.int IntKind.u64 0, Value.int IntKind.u64 0] 37)).alloc (Obj.cells #[Value.int IntKind.u64 0, Value.int IntKind.u64 0] 37)).heap[w.heap.size]? = some (.cells #[Value.int IntKind.u64 0, Value.int IntKind.u64 0] 37 (0, 0)) :=
    (Below.heap_alloc _ _ _ (by simp)).trans (World.alloc_heap_new w _)
  generalize (w.alloc (Obj.cells #[Value.int IntKind.u64 0, Value.int IntKind.u64 0] 37)).alloc (Obj.cells #[Value.int IntKind.u64 0, Value.int IntKind.u64 0] 37) = W0 at hg0 hB hT ⊢
  have hnl := nm_length s
  have hnb := nm_lt (s := s) (by omega)
  refine (pack_one (i := 0) hB rfl (by simp) (by simp) (c := s.size) (by omega)).mono ?_
  rintro e W1 ⟨rfl, hB1, ho1⟩
  have hg1 : Grow w W1 := Below.trans hg0 (ho1.below hg0.size (fun k hk => by omega))
  have hT1 := ho1.heap hT (by omega)
  rw [show [] ++ [s.size] = (nm s).take 1 from rfl] at hB1
  clear hg0 hB hT ho1
  go_wp2_with fail
  go_loopw [24] (fun i wr => ∃ k : Nat, k ≤ s.size ∧ i = .int .i64 (k : Int) ∧ Grow w wr ∧ wr.heap[w.heap.size + 1]? = some (.cells (packed ((nm s).take (k + 1))) 37 (0, 0)) ∧
      wr.heap[w.heap.size]? = some (.cells #[Value.int IntKind.u64 0, Value.int IntKind.u64 0] 37 (0, 0)))
    (fun i _ => s.size - (intOf i).toNat)
  case atStart => exact ⟨0, by omega, rfl, hg1, hB1, hT1⟩
  case round =>
    obtain ⟨k, hk, rfl, hg, hBk, hTk⟩ := hrel
    by_cases hlt : k < s.size
    · have hts := nm_take s k hlt
      have hc := s[k].toNat_lt
      generalize hy : s[k] = y at hts hc
      go_wp2_with fail
      have hp := pack_one (i := k + 1) hBk (by rw [List.length_take]; omega) (by rw [List.length_take]; omega) (fun b hb => hnb b (List.mem_of_mem_take hb)) (c := y.toNat) (by omega)
      rw [← hts] at hp
      refine (show Calls _ _ #[.int .i64 ((k : Int) + 1), _, _] _ _ from hp).mono ?_
      rintro e wn ⟨rfl, hBn, hon⟩
      have hgn : Grow w wn := Below.trans hg (hon.below hg.size (fun k hk => by omega))
      have hTn := hon.heap hTk (by omega)
      clear hp hBk hon hTk hg hts
      go_wp2
      go_roundw
      case rel => exact ⟨k + 1, by omega, by go_num, hgn, hBn, hTn⟩
      case measure => simp [intOf]; omega
    · obtain rfl : k = s.size := by omega
      rw [List.take_of_length_le (by omega)] at hBk
      have b0 : wr.cell? ⟨w.heap.size + 1, 0, none⟩ = some (.int .u64 ((pk ((nm s).take 8) : Nat) : Int)) := by rw [cell_of_heap hBk]; rfl
      have b1 : wr.cell? ⟨w.heap.size + 1, 1, none⟩ = some (.int .u64 ((pk ((nm s).drop 8) : Nat) : Int)) := by rw [cell_of_heap hBk]; rfl
      have T0 : wr.cell? ⟨w.heap.size, 0, none⟩ = some (.int .u64 0) := by rw [cell_of_heap hTk]; rfl
      have T1 : wr.cell? ⟨w.heap.size, 1, none⟩ = some (.int .u64 0) := by rw [cell_of_heap hTk]; rfl
      have F0 := frozen_of_heap hTk 0
      have F1 := frozen_of_heap hTk 1
      have hpk : packed (nm s) = #[.int .u64 ((pk ((nm s).take 8) : Nat) : Int), .int .u64 ((pk ((nm s).drop 8) : Nat) : Int)] := rfl
      generalize pk ((nm s).take 8) = p0 at b0 hpk
      generalize pk ((nm s).drop 8) = p1 at b1 hpk
      go_wp2
      have hT2 := heap_setCell_row (heap_setCell_row hTk (i := 0) (.int .u64 (p0 : Int))) (i := 1) (.int .u64 (p1 : Int))
      refine ret_pair (g := w.heap.size) rfl rfl rfl hT2 rfl ⟨by rw [hpk]; rfl, ?_⟩
      exact (hg.setCell (Nat.le_refl _) _).setCell (Nat.le_refl _) _
end Go.Proofs.Ck

namespace Go.Proofs.Ck
open Go Go.RowKit
open Go.Proofs.Ytpakfelekphbmaa

@[go_sem] theorem eq37 (a b c d : Int) (w : World) : (Op.equalIn 10000 37 (.agg #[.int .u64 a, .int .u64 b]) (.agg #[.int .u64 c, .int .u64 d])).run Try.prog w = .ok (a == c && b == d) w := by
  have u3 := Try.underlying22
  have a3 := Try.isAgg22
  have z3 := Try.sizeOf22
  rw [show (10000 : Nat) = 9999 + 1 from rfl, Op.equalIn]
  simp only [Sem.run_bind, run_underlying Try.underlying37, Result.andThen_ok]
  simp only [Std.Legacy.Range.forIn_eq_forIn_range', Std.Legacy.Range.size, Nat.sub_zero, Nat.add_sub_cancel, Nat.div_one, List.range'_succ, List.range'_zero, List.forIn_cons, List.forIn_nil]
  go_simp
  by_cases h1 : a = c <;> by_cases h2 : b = d <;> simp [h1, h2]
end Go.Proofs.Ck

namespace Go.Proofs.Ck
open Go Go.RowKit
open Go.Proofs.Ytpakfelekphbmaa

set_option maxRecDepth 100000 in
theorem awake1 (w : World) : Calls Try.prog 50 #[] w fun e w' => e = .returned (.bool true) ∧ Grow w w' := by
  go_enter Try.func50, Try.ntmps50
  go_wp2_with fail
  refine (need_ok 8 (by decide) w).mono ?_
  rintro e w' ⟨rfl, rfl⟩
  rw [show ((need 8 : Nat) : Int) = 48 from rfl]
  go_wp2_with fail
  refine (need_ok 9 (by decide) w).mono ?_
  rintro e w' ⟨rfl, rfl⟩
  rw [show ((need 9 : Nat) : Int) = 64 from rfl]
  go_wp2_with fail
  refine (up_next 17 4 (by omega) (by omega) (by decide) (by decide) w).mono ?_
  rintro e w' ⟨rfl, rfl⟩
  rw [show ((17 - 17 % 2 ^ 4 + 2 ^ 4 : Nat) : Int) = 32 from rfl]
  go_wp2_with fail
  refine (pack_ok _ (by decide) (by decide) w).mono ?_
  rintro e w1 ⟨rfl, hg⟩
  rw [show packed (nm { data := #[97, 98] }) = #[.int .u64 6447362, .int .u64 0] from rfl]
  go_wp2_with fail
  refine (words_call 9 (by omega) _).mono ?_
  rintro e w' ⟨rfl, rfl⟩
  rw [show (((9 + 7) / 8 : Nat) : Int) = 2 from rfl]
  go_wp2
  go_ret
  exact ⟨rfl, Below.alloc hg hg.size _⟩
end Go.Proofs.Ck

namespace Go.Proofs.Ck
open Go Go.RowKit

/-- A byte of two words. -/
def dg (w0 w1 i : Nat) : Nat := byteOf (if i < 8 then w0 else w1) (i % 8)
theorem dg_lt (w0 w1 i : Nat) : dg w0 w1 i < 256 := byteOf_lt _ _
theorem byteOf_succ (V i : Nat) : byteOf V (i + 1) = byteOf (V / 256) i := by
  unfold byteOf
  rw [Nat.pow_succ, Nat.mul_comm, Nat.div_div_eq_div_mul]
theorem bytes_inj : ∀ (n : Nat) {V V' : Nat}, V < 256 ^ n → V' < 256 ^ n → (∀ i, i < n → byteOf V i = byteOf V' i) → V = V'
  | 0, V, V', h, h', _ => by simp at h h'; omega
  | n + 1, V, V', h, h', hb => by
    have h0 := hb 0 (by omega)
    have h1 : V / 256 = V' / 256 := bytes_inj n (by rw [Nat.pow_succ] at h; exact Nat.div_lt_of_lt_mul (by rw [Nat.mul_comm]; exact h)) (by rw [Nat.pow_succ] at h'; exact Nat.div_lt_of_lt_mul (by rw [Nat.mul_comm]; exact h')) (fun i hi => by
      rw [← byteOf_succ, ← byteOf_succ]
      exact hb (i + 1) (by omega))
    unfold byteOf at h0
    simp at h0
    omega
theorem byteOf_pk : ∀ (l : List Nat), (∀ b ∈ l, b < 256) → ∀ i, byteOf (pk l) i = l.getD i 0
  | [], _, i => by simp [pk, byteOf]
  | b :: l, h, i => by
    have hb := h b (by simp)
    cases i with
    | zero =>
      unfold byteOf pk
      simp
      omega
    | succ i =>
      rw [byteOf_succ, show pk (b :: l) / 256 = pk l from by rw [show pk (b :: l) = b + 256 * pk l from rfl]; omega, byteOf_pk l (fun x hx => h x (by simp [hx])) i]
      simp
/-- Up to 16 bytes make these two words just if they are their bytes, and the others are 0. -/
theorem packed_eq {l : List Nat} {w0 w1 : Nat} (hl : l.length ≤ 16) (hb : ∀ b ∈ l, b < 256) (h0 : w0 < 18446744073709551616) (h1 : w1 < 18446744073709551616) :
    (pk (l.take 8) = w0 ∧ pk (l.drop 8) = w1) ↔ ∀ i, i < 16 → l.getD i 0 = dg w0 w1 i := by
  have b0 := byteOf_pk (l.take 8) (fun x hx => hb x (List.mem_of_mem_take hx))
  have b1 := byteOf_pk (l.drop 8) (fun x hx => hb x (List.mem_of_mem_drop hx))
  have g0 : ∀ i, i < 8 → (l.take 8).getD i 0 = l.getD i 0 := fun i hi => by simp [List.getD_eq_getElem?_getD, hi]
  have g1 : ∀ i, (l.drop 8).getD i 0 = l.getD (8 + i) 0 := fun i => by simp [List.getD_eq_getElem?_getD, List.getElem?_drop]
  constructor
  · rintro ⟨rfl, rfl⟩ i hi
    unfold dg
    by_cases h8 : i < 8
    · rw [if_pos h8, b0, Nat.mod_eq_of_lt h8, g0 i h8]
    · rw [if_neg h8, b1, g1]
      congr 1
      omega
  · intro h
    have p0 := pk_lt (l.take 8) (fun x hx => hb x (List.mem_of_mem_take hx))
    have p1 := pk_lt (l.drop 8) (fun x hx => hb x (List.mem_of_mem_drop hx))
    have q0 : pk (l.take 8) < 256 ^ 8 := Nat.lt_of_lt_of_le p0 (Nat.pow_le_pow_right (by omega) (by rw [List.length_take]; omega))
    have q1 : pk (l.drop 8) < 256 ^ 8 := Nat.lt_of_lt_of_le p1 (Nat.pow_le_pow_right (by omega) (by rw [List.length_drop]; omega))
    refine ⟨bytes_inj 8 q0 (by omega) fun i hi => ?_, bytes_inj 8 q1 (by omega) fun i hi => ?_⟩
    · rw [b0, g0 i hi, h i (by omega)]
      unfold dg
      rw [if_pos hi, Nat.mod_eq_of_lt hi]
    · rw [b1, g1, h (8 + i) (by omega)]
      unfold dg
      rw [if_neg (by omega)]
      congr 1
      omega

/-- The bytes behind the first one, so many. -/
def bl (w0 w1 n : Nat) : List Nat := (List.range n).map fun i => dg w0 w1 (i + 1)
theorem bl_length (w0 w1 n : Nat) : (bl w0 w1 n).length = n := by simp [bl]
theorem bl_succ (w0 w1 n : Nat) : bl w0 w1 (n + 1) = bl w0 w1 n ++ [dg w0 w1 (n + 1)] := by simp [bl, List.range_succ]
theorem bl_lt (w0 w1 n : Nat) : ∀ b ∈ bl w0 w1 n, b < 256 := by
  intro b hb
  obtain ⟨i, _, rfl⟩ := List.mem_map.1 hb
  exact dg_lt _ _ _
theorem strOf_data : ∀ (l : List Nat) , (strOf l).data.toList = l.map UInt8.ofNat := by
  have key : ∀ (l : List Nat) (s : ByteArray), ((l.map fun (x : Nat) => (x : Int)).foldl (fun r n => r.push (UInt8.ofNat n.toNat)) s).data.toList = s.data.toList ++ l.map UInt8.ofNat := by
    intro l
    induction l with
    | nil => intro s; simp
    | cons x l ih =>
      intro s
      rw [List.map_cons, List.foldl_cons, ih]
      simp
  intro l
  have := key l ByteArray.empty
  unfold strOf
  simpa using this
theorem strOf_size (l : List Nat) : (strOf l).size = l.length := by
  have := congrArg List.length (strOf_data l)
  simpa using this
theorem nm_strOf {l : List Nat} (h : ∀ b ∈ l, b < 256) : nm (strOf l) = l.length :: l := by
  unfold nm
  rw [strOf_size, strOf_data, List.map_map]
  congr 1
  conv => rhs; rw [← List.map_id l]
  apply List.map_congr_left
  intro x hx
  have := h x hx
  simp [Function.comp]
  omega
theorem strOf_bytes (s : ByteArray) : strOf (s.data.toList.map (·.toNat)) = s := by
  have h := strOf_data (s.data.toList.map (·.toNat))
  rw [List.map_map] at h
  have e : List.map (UInt8.ofNat ∘ fun x => x.toNat) s.data.toList = s.data.toList := by
    conv => rhs; rw [← List.map_id s.data.toList]
    apply List.map_congr_left
    intro x _
    simp
  rw [e] at h
  have h2 : (strOf (s.data.toList.map (·.toNat))).data = s.data := Array.toList_inj.1 h
  cases hs : strOf (s.data.toList.map (·.toNat)) with
  | mk d =>
    rw [hs] at h2
    cases s with
    | mk d' => simp only at h2; rw [h2]

/-- Are two words a name's? -/
def isName (w0 w1 : Nat) : Prop := 1 ≤ dg w0 w1 0 ∧ dg w0 w1 0 ≤ 15 ∧ ∀ i, dg w0 w1 0 < i → i < 16 → dg w0 w1 i = 0
noncomputable instance (w0 w1 : Nat) : Decidable (isName w0 w1) := Classical.propDecidable _
/-- The name that two words are. -/
noncomputable def nameOf (w0 w1 : Nat) : ByteArray := if isName w0 w1 then strOf (bl w0 w1 (dg w0 w1 0)) else ByteArray.empty
theorem packs_iff {w0 w1 n : Nat} (h0 : w0 < 18446744073709551616) (h1 : w1 < 18446744073709551616) (hn : n = min (dg w0 w1 0) 15) (hp : 1 ≤ n) :
    (pk ((nm (strOf (bl w0 w1 n))).take 8) = w0 ∧ pk ((nm (strOf (bl w0 w1 n))).drop 8) = w1) ↔ isName w0 w1 := by
  rw [nm_strOf (bl_lt _ _ _), bl_length]
  rw [packed_eq (by simp [bl_length]; omega) (fun b hb => by
    rcases List.mem_cons.1 hb with rfl | hb
    · omega
    · exact bl_lt _ _ _ b hb) h0 h1]
  have g : ∀ i, (n :: bl w0 w1 n).getD (i + 1) 0 = if i < n then dg w0 w1 (i + 1) else 0 := fun i => by
    rw [List.getD_cons_succ]
    by_cases hi : i < n
    · simp [List.getD_eq_getElem?_getD, bl, hi]
    · simp [List.getD_eq_getElem?_getD, bl, hi]
  constructor
  · intro h
    have e0 := h 0 (by omega)
    simp only [List.getD_cons_zero] at e0
    refine ⟨by omega, by omega, fun i hi h16 => ?_⟩
    obtain ⟨j, rfl⟩ : ∃ j, i = j + 1 := ⟨i - 1, by omega⟩
    have := h (j + 1) h16
    rw [g, if_neg (by omega)] at this
    exact this.symm
  · rintro ⟨h1', h2', h3⟩ i hi
    cases i with
    | zero => simp only [List.getD_cons_zero]; omega
    | succ j =>
      rw [g]
      split
      · rfl
      · exact (h3 (j + 1) (by omega) hi).symm
end Go.Proofs.Ck

namespace Go.Proofs.Ck
open Go Go.RowKit

section
variable {P : Program}
/-- 'append(s, x, y, ..)' of m elements, that lie in a block that has just been laid. -/
theorem wpList_pushN (m : Nat) (w : World) {W : World} {ops : Array Oper} {rest : List Oper} {o : Oper} {a : Act} {Q : Exit → Act → World → Prop} (hgd : o.guard = none) (s x : Operand) (t : TypeId)
    (ho : o.op = .call { callee := .builtin .append, args := #[s, x], argTypes := #[t, t] })
    (base : Nat) (e : TypeId) (i : TypeInfo) (z : Value) (size bytes : Nat) (ht : P.underlying t = some (.slice e)) (hi : P.info? e = some i) (hz : i.zero = some z)
    (hsize : i.size = size) (hby : i.bytes = bytes) (hzs : z.cells.size = size) (hsz : 0 < size)
    (v : Value) (n : Nat) (xs : List Value) (hs : a.eval s = v) (hown : w.ownsRow base e size v n xs)
    (cs : Array Value) (hx : a.eval x = .slice (some ⟨w.heap.size, 0, none⟩) m m) (hcs : cs.size = m * size) (h1 : ∀ u ∈ cs.toList, u.oneCell' = true)
    (hW : W = w.alloc (.cells cs e)) (h63 : n + m ≤ maxLen) (hbytes : (n + m) * bytes ≤ 140737488355328) (hbase : base ≤ w.heap.size)
    (h : ∀ v' w', w'.ownsRow base e size v' (n + m) (xs ++ cs.toList) → Only (fun b => v.ownBlock = some b) w w' → wpList P ops Q rest (a.put o.dst v') w') : wpList P ops Q (o :: rest) a W := by
  subst hW
  have hnew : (w.alloc (.cells cs e)).heap[w.heap.size]? = some (.cells cs e (0, 0)) := World.alloc_heap_new w _
  refine wpList_append_row (S := fun _ => True) (w.alloc (.cells cs e)) hgd s x t ho base e i z size bytes ht hi hz hsize hby hzs hsz v n xs hs (hown.alloc _)
    (some ⟨w.heap.size, 0, none⟩) m m cs.toList hx ⟨by simpa using hcs, fun _ => ⟨_, _, rfl, trivial, fun j u hj => ?_⟩⟩ (fun h => by cases h) h1 h63 hbytes (by simp; omega) fun v' w' r1 r2 => h v' w' r1 ?_
  · rw [cell_of_heap hnew]; simpa using hj
  · have r0 : Only (fun b => v.ownBlock = some b) w (w.alloc (.cells cs e)) := (Only.refl _ _).alloc _
    exact r0.trans r2
end
/-- The word that a byte stands in. -/
def wd (w0 w1 q : Nat) : Nat := if q = 0 then w0 else w1
theorem dg_wd (w0 w1 i : Nat) (hi : i < 16) : dg w0 w1 i = byteOf (wd w0 w1 (i / 8)) (i % 8) := by
  unfold dg wd
  by_cases h : i < 8
  · rw [if_pos h, if_pos (by omega)]
  · rw [if_neg h, if_neg (by omega)]

set_option maxRecDepth 100000 in
theorem name_at {w : World} {B i w0 w1 : Nat} (hB : w.heap[B]? = some (.cells #[.int .u64 (w0 : Int), .int .u64 (w1 : Int)] 37 (0, 0))) (hi : i < 16) {x : Int} (hx : x = (i : Int)) :
    Calls Try.prog 149 #[.int .i64 x, .pointer (some ⟨B, 0, none⟩)] w fun e w' => e = .returned (.int .u8 ((dg w0 w1 i : Nat) : Int)) ∧ w = w' := by
  subst hx
  have hcell : w.cell? ⟨B, i / 8, none⟩ = some (.int .u64 ((wd w0 w1 (i / 8) : Nat) : Int)) := by
    rw [cell_of_heap hB]
    rcases (show i / 8 = 0 ∨ i / 8 = 1 by omega) with h | h <;> rw [h] <;> rfl
  have q1 : IntKind.i64.wrap ((i : Int) / 8) = ((i / 8 : Nat) : Int) := by rw [IntKind.wrap_i64]; omega
  have r1 : IntKind.i64.wrap ((i : Int) % 8) = ((i % 8 : Nat) : Int) := by rw [IntKind.wrap_i64]; omega
  have r2 : (i : Int) % 8 = ((i % 8 : Nat) : Int) := by omega
  have r3 : (i : Int).tmod 8 = ((i % 8 : Nat) : Int) := by rw [Int.tmod_eq_emod_of_nonneg (by omega)]; omega
  have q2 : (i : Int) / 8 = ((i / 8 : Nat) : Int) := by omega
  have hq : i / 8 < 2 := by omega
  have hr : i % 8 < 8 := by omega
  rw [dg_wd w0 w1 i hi]
  generalize wd w0 w1 (i / 8) = V at *
  generalize i / 8 = q at *
  generalize i % 8 = r at *
  have al : Try.prog.arrayLen 37 = 2 := by kernel_rfl
  have hix : (0 : Int) ≤ (q : Int) ∧ (q : Int) < 2 := by omega
  have r4 : IntKind.i64.wrap (8 * (r : Int)) = ((8 * r : Nat) : Int) := by rw [IntKind.wrap_i64]; omega
  go_enter Try.func149, Try.ntmps149
  go_wp2
  go_ret
  refine ⟨?_, rfl⟩
  show Ending.returned (Value.int IntKind.u8 ((V : Int) / 2 ^ (8 * r) % 256)) = _
  congr 2
  exact (byteOf_int V r).symm



set_option maxRecDepth 100000 in
theorem pack_bad (s : ByteArray) (h : s.size < 1 ∨ 15 < s.size) (w : World) :
    Calls Try.prog 64 #[.string s] w fun e w' => e = .returned (.tuple #[.agg #[.int .u64 0, .int .u64 0], .bool false]) ∧ Grow w w' := by
  have hg0 : Grow w ((w.alloc (Obj.cells #[Value.int IntKind.u64 0, Value.int IntKind.u64 0] 37)).alloc (Obj.cells #[Value.int IntKind.u64 0, Value.int IntKind.u64 0] 37)) :=
    ((Below.refl _ _).alloc (Nat.le_refl _) _).alloc (by simp) _
  have hT : ((w.alloc (Obj.cells #[Value.int IntKind.u64 0, Value.int IntKind.u64 0] 37)).alloc (Obj.cells #[Value.int IntKind.u64 0, Value.int IntKind.u64 0] 37)).heap[w.heap.size]? = some (.cells #[Value.int IntKind.u64 0, Value.int IntKind.u64 0] 37 (0, 0)) :=
    (Below.heap_alloc _ _ _ (by simp)).trans (World.alloc_heap_new w _)
  by_cases h1 : s.size < 1
  · have t0 : decide ((s.size : Int) < 1) = true := decide_eq_true (by omega)
    go_enter Try.func64, Try.ntmps64
    go_wp2
    exact ret_pair (g := w.heap.size) rfl rfl rfl hT rfl ⟨rfl, hg0⟩
  · have t0 : decide ((s.size : Int) < 1) = false := decide_eq_false (by omega)
    have t1 : decide (15 < (s.size : Int)) = true := decide_eq_true (by omega)
    go_enter Try.func64, Try.ntmps64
    go_wp2
    exact ret_pair (g := w.heap.size) rfl rfl rfl hT rfl ⟨rfl, hg0⟩

set_option maxRecDepth 100000 in
set_option maxHeartbeats 4000000 in
theorem name_call (w : World) (w0 w1 : Nat) (h0 : w0 < 18446744073709551616) (h1 : w1 < 18446744073709551616) :
    Calls Try.prog 66 #[.agg #[.int .u64 (w0 : Int), .int .u64 (w1 : Int)]] w fun e w' => e = .returned (.tuple #[.string (nameOf w0 w1), .bool (decide (isName w0 w1))]) ∧ Grow w w' := by
  obtain ⟨i5, hi5, hz5, hs5, hb5⟩ := info_parts info5
  have hga : Grow w (w.alloc (.cells #[.int .u64 (w0 : Int), .int .u64 (w1 : Int)] 37)) := (Below.refl _ _).alloc (Nat.le_refl _) _
  have hB := World.alloc_heap_new w (.cells #[.int .u64 (w0 : Int), .int .u64 (w1 : Int)] 37)
  have hd := dg_lt w0 w1 0
  have ha0 := name_at hB (i := 0) (by omega) (x := 0) rfl
  by_cases hn : isName w0 w1
  · rw [decide_eq_true hn, show nameOf w0 w1 = strOf (bl w0 w1 (dg w0 w1 0)) from if_pos hn]
    have hn1 := hn.1
    have hn2 := hn.2.1
    have HN := Lib.hid hn
    clear hn
    obtain ⟨D, hD⟩ : ∃ D, dg w0 w1 0 = D := ⟨_, rfl⟩
    have HNN := Lib.hid (show D = min (dg w0 w1 0) 15 by omega)
    rw [hD] at ha0 hd hn1 hn2 ⊢
    have hd15 : ¬ (15 : Int) < D := by omega
    clear hD
    go_enter Try.func66, Try.ntmps66
    go_wp2_with fail
    generalize w.alloc (.cells #[.int .u64 (w0 : Int), .int .u64 (w1 : Int)] 37) = wa at *
    refine ha0.mono ?_
    rintro e w' ⟨rfl, rfl⟩
    clear ha0
    go_wp2_with fail
    go_loopw [5, 14] (fun s i wr => ∃ k : Nat, k ≤ D ∧ i = .int .i64 (k : Int) ∧ Grow wa wr ∧ wr.ownsRow wa.heap.size 5 1 s k (u8s (bl w0 w1 k))) (fun _ i _ => D - (intOf i).toNat)
    case atStart => exact ⟨0, Nat.zero_le _, rfl, Below.refl _ _, World.ownsRow_nil _ _ _ _⟩
    case round =>
      obtain ⟨k, hk, rfl, hg, hown⟩ := hrel
      by_cases hlt : k < D
      · have HS := Lib.hid (bl_succ w0 w1 k)
        have ha := name_at (hg.heap hB) (i := k + 1) (by omega) (x := (k : Int) + 1) (by omega)
        have hd2 := dg_lt w0 w1 (k + 1)
        generalize dg w0 w1 (k + 1) = y at *
        generalize bl w0 w1 k = L at *
        have g0 : decide ((k : Int) < D) = true := decide_eq_true (by omega)
        have hbase := hg.size
        go_wp2_with fail
        refine ha.mono ?_
        rintro e w' ⟨rfl, rfl⟩
        clear ha
        go_wp2_with (at_builtin; refine wpList_pushN 1 wr rfl (.tmp 17) (.tmp 22) 30 rfl wa.heap.size 5 i5 (.int .u8 0) 1 1 Try.underlying30 hi5 hz5 hs5 hb5 rfl (by decide) u5 k _ rfl hown #[.int .u8 (y : Int)] rfl rfl (by simp [Value.oneCell']) rfl (by unfold maxLen; omega) (by omega) hbase ?_)
        intro v' w5 hown5 ho5
        obtain ⟨A', c', rfl⟩ : ∃ A c, v' = .slice A (k + 1) c := by
          obtain ⟨g, c, _, e, _⟩ := own_form hown5 (by omega)
          exact ⟨_, c, e⟩
        have hg7 : Grow wa w5 := grow_own hg hown ho5
        clear hown ho5 hg
        go_wp2
        go_roundw
        case rel =>
          refine ⟨k + 1, by omega, by go_num, hg7, ?_⟩
          rw [HS.out, u8s_append]
          exact hown5
        case measure => simp [intOf]; omega
      · obtain rfl : D = k := by omega
        have g0 : decide (((D : Nat) : Int) < D) = false := decide_eq_false (by omega)
        obtain ⟨Z, z, rfl, -, -, hr⟩ := Row.of_own hown
        have hBr := hg.heap hB
        have hgw := hga.trans hg
        clear hown
        have hln := bl_length w0 w1 D
        have hconv := run_string (show Byts (fun b => wa.heap.size ≤ b) wr Z (bl w0 w1 D) from by
          show Row _ _ _ (bl w0 w1 D).length 1 _
          rw [hln]; exact hr) (n := D) (c := z) hln
        have hsz := strOf_size (bl w0 w1 D)
        rw [hln] at hsz
        have hconvA : ∀ (w7 : World), Grow wr w7 → (convert 30 9 (.slice Z D z)).run Try.prog w7 = .ok (.string (strOf (bl w0 w1 D))) w7 := fun w7 hg7 => run_string (show Byts (fun b => wa.heap.size ≤ b) w7 Z (bl w0 w1 D) from by
          show Row _ _ _ (bl w0 w1 D).length 1 _
          rw [hln]; exact hr.grow hg7) (n := D) (c := z) hln
        have hlt8 := nm_strOf (bl_lt w0 w1 D)
        have hpk := pack_ok (strOf (bl w0 w1 D)) (by omega) (by omega) wr
        have hif := packs_iff (n := D) h0 h1 HNN.out (by omega)
        have hpd : packed (nm (strOf (bl w0 w1 D))) = #[.int .u64 ((pk ((nm (strOf (bl w0 w1 D))).take 8) : Nat) : Int), .int .u64 ((pk ((nm (strOf (bl w0 w1 D))).drop 8) : Nat) : Int)] := rfl
        rw [hpd] at hpk
        clear hpd hlt8
        generalize pk ((nm (strOf (bl w0 w1 D))).take 8) = a at *
        generalize pk ((nm (strOf (bl w0 w1 D))).drop 8) = b at *
        have hpost : strOf (bl w0 w1 D) = strOf (bl w0 w1 D) := rfl
        generalize hst : strOf (bl w0 w1 D) = str at hpk hif hconvA hconv hsz
        have HST := Lib.hid hst
        clear hst hpost
        have HIF := Lib.hid hif
        clear hif hsz hr hln
        go_wp2_with fail
        refine hpk.mono ?_
        rintro e w6 ⟨rfl, hg6⟩
        have hB6 := hg6.heap hBr
        have hgn := hg6.trans ((Below.refl _ _).alloc (Nat.le_refl _) (Obj.cells #[.int .u64 (a : Int), .int .u64 (b : Int)] 37))
        have hgz := hgw.trans hgn
        have hc2 := hconvA _ hgn
        have hB7 := (Below.heap_alloc w6 (Obj.cells #[.int .u64 (a : Int), .int .u64 (b : Int)] 37) w.heap.size (lt_of_heap hB6)).trans hB6
        have b0 : (w6.alloc (Obj.cells #[.int .u64 (a : Int), .int .u64 (b : Int)] 37)).cell? ⟨w.heap.size, 0, none⟩ = some (.int .u64 (w0 : Int)) := by rw [cell_of_heap hB7]; rfl
        have b1 : (w6.alloc (Obj.cells #[.int .u64 (a : Int), .int .u64 (b : Int)] 37)).cell? ⟨w.heap.size, 1, none⟩ = some (.int .u64 (w1 : Int)) := by rw [cell_of_heap hB7]; rfl
        have b2 : (w6.alloc (Obj.cells #[.int .u64 (a : Int), .int .u64 (b : Int)] 37)).cell? ⟨w6.heap.size, 0, none⟩ = some (.int .u64 (a : Int)) := by rw [cell_of_heap (World.alloc_heap_new w6 _)]; rfl
        have b3 : (w6.alloc (Obj.cells #[.int .u64 (a : Int), .int .u64 (b : Int)] 37)).cell? ⟨w6.heap.size, 1, none⟩ = some (.int .u64 (b : Int)) := by rw [cell_of_heap (World.alloc_heap_new w6 _)]; rfl
        clear hpk hconvA hconv
        obtain ⟨hea, heb⟩ := HIF.out.2 HN.out
        subst hea heb
        go_wp2
        go_ret2
        refine ⟨?_, hgz⟩
        rw [HST.out]
        rfl
  · rw [decide_eq_false hn, show nameOf w0 w1 = ByteArray.empty from if_neg hn]
    have HN := Lib.hid hn
    clear hn
    obtain ⟨D, hD⟩ : ∃ D, dg w0 w1 0 = D := ⟨_, rfl⟩
    by_cases hz : D = 0
    · subst hz
      rw [hD] at ha0
      clear hD hd
      go_enter Try.func66, Try.ntmps66
      go_wp2_with fail
      generalize w.alloc (.cells #[.int .u64 (w0 : Int), .int .u64 (w1 : Int)] 37) = wa at *
      refine ha0.mono ?_
      rintro e w' ⟨rfl, rfl⟩
      clear ha0
      go_wp2_with fail
      go_loopw [5, 14] (fun s i wr => ∃ k : Nat, k ≤ 0 ∧ i = .int .i64 (k : Int) ∧ Grow wa wr ∧ wr.ownsRow wa.heap.size 5 1 s k (u8s (bl w0 w1 k))) (fun _ i _ => 0 - (intOf i).toNat)
      case atStart => exact ⟨0, Nat.zero_le _, rfl, Below.refl _ _, World.ownsRow_nil _ _ _ _⟩
      case round =>
        obtain ⟨k, hk, rfl, hg, hown⟩ := hrel
        by_cases hlt : k < 0
        · exact absurd hlt (by omega)
        · obtain rfl : 0 = k := by omega
          have g0 : decide (((0 : Nat) : Int) < 0) = false := decide_eq_false (by omega)
          obtain ⟨Z, z, rfl, -, -, hr⟩ := Row.of_own hown
          have hBr := hg.heap hB
          have hgw := hga.trans hg
          clear hown
          have hln := bl_length w0 w1 0
          have hconv := run_string (show Byts (fun b => wa.heap.size ≤ b) wr Z (bl w0 w1 0) from by
            show Row _ _ _ (bl w0 w1 0).length 1 _
            rw [hln]; exact hr) (n := 0) (c := z) hln
          have hsz := strOf_size (bl w0 w1 0)
          rw [hln] at hsz
          have hpk := pack_bad (strOf (bl w0 w1 0)) (by omega) wr
          clear hsz hr hln
          generalize strOf (bl w0 w1 0) = str at *
          go_wp2_with fail
          refine hpk.mono ?_
          rintro e w6 ⟨rfl, hg6⟩
          have hgz := hgw.trans (hg6.trans ((Below.refl _ _).alloc (Nat.le_refl _) (Obj.cells #[.int .u64 0, .int .u64 0] 37)))
          clear hpk hconv
          go_wp2
          go_ret2
          exact ⟨rfl, hgz⟩
    · by_cases h15 : D ≤ 15
      · have HNN := Lib.hid (show D = min (dg w0 w1 0) 15 by omega)
        rw [hD] at ha0 hd
        have hd15 : ¬ (15 : Int) < D := by omega
        clear hD
        go_enter Try.func66, Try.ntmps66
        go_wp2_with fail
        generalize w.alloc (.cells #[.int .u64 (w0 : Int), .int .u64 (w1 : Int)] 37) = wa at *
        refine ha0.mono ?_
        rintro e w' ⟨rfl, rfl⟩
        clear ha0
        go_wp2_with fail
        go_loopw [5, 14] (fun s i wr => ∃ k : Nat, k ≤ D ∧ i = .int .i64 (k : Int) ∧ Grow wa wr ∧ wr.ownsRow wa.heap.size 5 1 s k (u8s (bl w0 w1 k))) (fun _ i _ => D - (intOf i).toNat)
        case atStart => exact ⟨0, Nat.zero_le _, rfl, Below.refl _ _, World.ownsRow_nil _ _ _ _⟩
        case round =>
          obtain ⟨k, hk, rfl, hg, hown⟩ := hrel
          by_cases hlt : k < D
          · have HS := Lib.hid (bl_succ w0 w1 k)
            have ha := name_at (hg.heap hB) (i := k + 1) (by omega) (x := (k : Int) + 1) (by omega)
            have hd2 := dg_lt w0 w1 (k + 1)
            generalize dg w0 w1 (k + 1) = y at *
            generalize bl w0 w1 k = L at *
            have g0 : decide ((k : Int) < D) = true := decide_eq_true (by omega)
            have hbase := hg.size
            go_wp2_with fail
            refine ha.mono ?_
            rintro e w' ⟨rfl, rfl⟩
            clear ha
            go_wp2_with (at_builtin; refine wpList_pushN 1 wr rfl (.tmp 17) (.tmp 22) 30 rfl wa.heap.size 5 i5 (.int .u8 0) 1 1 Try.underlying30 hi5 hz5 hs5 hb5 rfl (by decide) u5 k _ rfl hown #[.int .u8 (y : Int)] rfl rfl (by simp [Value.oneCell']) rfl (by unfold maxLen; omega) (by omega) hbase ?_)
            intro v' w5 hown5 ho5
            obtain ⟨A', c', rfl⟩ : ∃ A c, v' = .slice A (k + 1) c := by
              obtain ⟨g, c, _, e, _⟩ := own_form hown5 (by omega)
              exact ⟨_, c, e⟩
            have hg7 : Grow wa w5 := grow_own hg hown ho5
            clear hown ho5 hg
            go_wp2
            go_roundw
            case rel =>
              refine ⟨k + 1, by omega, by go_num, hg7, ?_⟩
              rw [HS.out, u8s_append]
              exact hown5
            case measure => simp [intOf]; omega
          · obtain rfl : D = k := by omega
            have g0 : decide (((D : Nat) : Int) < D) = false := decide_eq_false (by omega)
            obtain ⟨Z, z, rfl, -, -, hr⟩ := Row.of_own hown
            have hBr := hg.heap hB
            have hgw := hga.trans hg
            clear hown
            have hln := bl_length w0 w1 D
            have hconv := run_string (show Byts (fun b => wa.heap.size ≤ b) wr Z (bl w0 w1 D) from by
              show Row _ _ _ (bl w0 w1 D).length 1 _
              rw [hln]; exact hr) (n := D) (c := z) hln
            have hsz := strOf_size (bl w0 w1 D)
            rw [hln] at hsz
            have hconvA : ∀ (w7 : World), Grow wr w7 → (convert 30 9 (.slice Z D z)).run Try.prog w7 = .ok (.string (strOf (bl w0 w1 D))) w7 := fun w7 hg7 => run_string (show Byts (fun b => wa.heap.size ≤ b) w7 Z (bl w0 w1 D) from by
              show Row _ _ _ (bl w0 w1 D).length 1 _
              rw [hln]; exact hr.grow hg7) (n := D) (c := z) hln
            have hlt8 := nm_strOf (bl_lt w0 w1 D)
            have hpk := pack_ok (strOf (bl w0 w1 D)) (by omega) (by omega) wr
            have hif := packs_iff (n := D) h0 h1 HNN.out (by omega)
            have hpd : packed (nm (strOf (bl w0 w1 D))) = #[.int .u64 ((pk ((nm (strOf (bl w0 w1 D))).take 8) : Nat) : Int), .int .u64 ((pk ((nm (strOf (bl w0 w1 D))).drop 8) : Nat) : Int)] := rfl
            rw [hpd] at hpk
            clear hpd hlt8
            generalize pk ((nm (strOf (bl w0 w1 D))).take 8) = a at *
            generalize pk ((nm (strOf (bl w0 w1 D))).drop 8) = b at *
            generalize strOf (bl w0 w1 D) = str at *
            have HIF := Lib.hid hif
            clear hif hsz hr hln
            go_wp2_with fail
            refine hpk.mono ?_
            rintro e w6 ⟨rfl, hg6⟩
            have hB6 := hg6.heap hBr
            have hgn := hg6.trans ((Below.refl _ _).alloc (Nat.le_refl _) (Obj.cells #[.int .u64 (a : Int), .int .u64 (b : Int)] 37))
            have hgz := hgw.trans hgn
            have hc2 := hconvA _ hgn
            have hB7 := (Below.heap_alloc w6 (Obj.cells #[.int .u64 (a : Int), .int .u64 (b : Int)] 37) w.heap.size (lt_of_heap hB6)).trans hB6
            have b0 : (w6.alloc (Obj.cells #[.int .u64 (a : Int), .int .u64 (b : Int)] 37)).cell? ⟨w.heap.size, 0, none⟩ = some (.int .u64 (w0 : Int)) := by rw [cell_of_heap hB7]; rfl
            have b1 : (w6.alloc (Obj.cells #[.int .u64 (a : Int), .int .u64 (b : Int)] 37)).cell? ⟨w.heap.size, 1, none⟩ = some (.int .u64 (w1 : Int)) := by rw [cell_of_heap hB7]; rfl
            have b2 : (w6.alloc (Obj.cells #[.int .u64 (a : Int), .int .u64 (b : Int)] 37)).cell? ⟨w6.heap.size, 0, none⟩ = some (.int .u64 (a : Int)) := by rw [cell_of_heap (World.alloc_heap_new w6 _)]; rfl
            have b3 : (w6.alloc (Obj.cells #[.int .u64 (a : Int), .int .u64 (b : Int)] 37)).cell? ⟨w6.heap.size, 1, none⟩ = some (.int .u64 (b : Int)) := by rw [cell_of_heap (World.alloc_heap_new w6 _)]; rfl
            clear hpk hconvA hconv
            have hne : ¬ (a = w0 ∧ b = w1) := fun hh => HN.out (HIF.out.1 hh)
            by_cases hea : a = w0
            · subst hea
              have t3 : ((b : Int) == w1) = false := by rw [beq_eq_false_iff_ne]; intro e; exact hne ⟨rfl, by omega⟩
              have t4 : ((a : Int) == a) = true := by simp
              clear hne
              go_wp2
              go_ret2
              exact ⟨rfl, hgz⟩
            · have t3 : ((a : Int) == w0) = false := by rw [beq_eq_false_iff_ne]; omega
              clear hne hea
              go_wp2
              go_ret2
              exact ⟨rfl, hgz⟩
      · have HNN := Lib.hid (show 15 = min (dg w0 w1 0) 15 by omega)
        rw [hD] at ha0 hd
        have hd15 : (15 : Int) < D := by omega
        clear hD
        go_enter Try.func66, Try.ntmps66
        go_wp2_with fail
        generalize w.alloc (.cells #[.int .u64 (w0 : Int), .int .u64 (w1 : Int)] 37) = wa at *
        refine ha0.mono ?_
        rintro e w' ⟨rfl, rfl⟩
        clear ha0
        go_wp2_with fail
        go_loopw [5, 14] (fun s i wr => ∃ k : Nat, k ≤ 15 ∧ i = .int .i64 (k : Int) ∧ Grow wa wr ∧ wr.ownsRow wa.heap.size 5 1 s k (u8s (bl w0 w1 k))) (fun _ i _ => 15 - (intOf i).toNat)
        case atStart => exact ⟨0, Nat.zero_le _, rfl, Below.refl _ _, World.ownsRow_nil _ _ _ _⟩
        case round =>
          obtain ⟨k, hk, rfl, hg, hown⟩ := hrel
          by_cases hlt : k < 15
          · have HS := Lib.hid (bl_succ w0 w1 k)
            have ha := name_at (hg.heap hB) (i := k + 1) (by omega) (x := (k : Int) + 1) (by omega)
            have hd2 := dg_lt w0 w1 (k + 1)
            generalize dg w0 w1 (k + 1) = y at *
            generalize bl w0 w1 k = L at *
            have g0 : decide ((k : Int) < 15) = true := decide_eq_true (by omega)
            have hbase := hg.size
            go_wp2_with fail
            refine ha.mono ?_
            rintro e w' ⟨rfl, rfl⟩
            clear ha
            go_wp2_with (at_builtin; refine wpList_pushN 1 wr rfl (.tmp 17) (.tmp 22) 30 rfl wa.heap.size 5 i5 (.int .u8 0) 1 1 Try.underlying30 hi5 hz5 hs5 hb5 rfl (by decide) u5 k _ rfl hown #[.int .u8 (y : Int)] rfl rfl (by simp [Value.oneCell']) rfl (by unfold maxLen; omega) (by omega) hbase ?_)
            intro v' w5 hown5 ho5
            obtain ⟨A', c', rfl⟩ : ∃ A c, v' = .slice A (k + 1) c := by
              obtain ⟨g, c, _, e, _⟩ := own_form hown5 (by omega)
              exact ⟨_, c, e⟩
            have hg7 : Grow wa w5 := grow_own hg hown ho5
            clear hown ho5 hg
            go_wp2
            go_roundw
            case rel =>
              refine ⟨k + 1, by omega, by go_num, hg7, ?_⟩
              rw [HS.out, u8s_append]
              exact hown5
            case measure => simp [intOf]; omega
          · obtain rfl : 15 = k := by omega
            have g0 : decide (((15 : Nat) : Int) < 15) = false := decide_eq_false (by omega)
            obtain ⟨Z, z, rfl, -, -, hr⟩ := Row.of_own hown
            have hBr := hg.heap hB
            have hgw := hga.trans hg
            clear hown
            have hln := bl_length w0 w1 15
            have hconv := run_string (show Byts (fun b => wa.heap.size ≤ b) wr Z (bl w0 w1 15) from by
              show Row _ _ _ (bl w0 w1 15).length 1 _
              rw [hln]; exact hr) (n := 15) (c := z) hln
            have hsz := strOf_size (bl w0 w1 15)
            rw [hln] at hsz
            have hconvA : ∀ (w7 : World), Grow wr w7 → (convert 30 9 (.slice Z 15 z)).run Try.prog w7 = .ok (.string (strOf (bl w0 w1 15))) w7 := fun w7 hg7 => run_string (show Byts (fun b => wa.heap.size ≤ b) w7 Z (bl w0 w1 15) from by
              show Row _ _ _ (bl w0 w1 15).length 1 _
              rw [hln]; exact hr.grow hg7) (n := 15) (c := z) hln
            have hlt8 := nm_strOf (bl_lt w0 w1 15)
            have hpk := pack_ok (strOf (bl w0 w1 15)) (by omega) (by omega) wr
            have hif := packs_iff (n := 15) h0 h1 HNN.out (by omega)
            have hpd : packed (nm (strOf (bl w0 w1 15))) = #[.int .u64 ((pk ((nm (strOf (bl w0 w1 15))).take 8) : Nat) : Int), .int .u64 ((pk ((nm (strOf (bl w0 w1 15))).drop 8) : Nat) : Int)] := rfl
            rw [hpd] at hpk
            clear hpd hlt8
            generalize pk ((nm (strOf (bl w0 w1 15))).take 8) = a at *
            generalize pk ((nm (strOf (bl w0 w1 15))).drop 8) = b at *
            generalize strOf (bl w0 w1 15) = str at *
            have HIF := Lib.hid hif
            clear hif hsz hr hln
            go_wp2_with fail
            refine hpk.mono ?_
            rintro e w6 ⟨rfl, hg6⟩
            have hB6 := hg6.heap hBr
            have hgn := hg6.trans ((Below.refl _ _).alloc (Nat.le_refl _) (Obj.cells #[.int .u64 (a : Int), .int .u64 (b : Int)] 37))
            have hgz := hgw.trans hgn
            have hc2 := hconvA _ hgn
            have hB7 := (Below.heap_alloc w6 (Obj.cells #[.int .u64 (a : Int), .int .u64 (b : Int)] 37) w.heap.size (lt_of_heap hB6)).trans hB6
            have b0 : (w6.alloc (Obj.cells #[.int .u64 (a : Int), .int .u64 (b : Int)] 37)).cell? ⟨w.heap.size, 0, none⟩ = some (.int .u64 (w0 : Int)) := by rw [cell_of_heap hB7]; rfl
            have b1 : (w6.alloc (Obj.cells #[.int .u64 (a : Int), .int .u64 (b : Int)] 37)).cell? ⟨w.heap.size, 1, none⟩ = some (.int .u64 (w1 : Int)) := by rw [cell_of_heap hB7]; rfl
            have b2 : (w6.alloc (Obj.cells #[.int .u64 (a : Int), .int .u64 (b : Int)] 37)).cell? ⟨w6.heap.size, 0, none⟩ = some (.int .u64 (a : Int)) := by rw [cell_of_heap (World.alloc_heap_new w6 _)]; rfl
            have b3 : (w6.alloc (Obj.cells #[.int .u64 (a : Int), .int .u64 (b : Int)] 37)).cell? ⟨w6.heap.size, 1, none⟩ = some (.int .u64 (b : Int)) := by rw [cell_of_heap (World.alloc_heap_new w6 _)]; rfl
            clear hpk hconvA hconv
            have hne : ¬ (a = w0 ∧ b = w1) := fun hh => HN.out (HIF.out.1 hh)
            by_cases hea : a = w0
            · subst hea
              have t3 : ((b : Int) == w1) = false := by rw [beq_eq_false_iff_ne]; intro e; exact hne ⟨rfl, by omega⟩
              have t4 : ((a : Int) == a) = true := by simp
              clear hne
              go_wp2
              go_ret2
              exact ⟨rfl, hgz⟩
            · have t3 : ((a : Int) == w0) = false := by rw [beq_eq_false_iff_ne]; omega
              clear hne hea
              go_wp2
              go_ret2
              exact ⟨rfl, hgz⟩
end Go.Proofs.Ck

namespace Go.Proofs.Ck
open Go Go.RowKit

/-- The half of a list that a word holds. -/
def sg (l : List Nat) (q : Nat) : List Nat := if q = 0 then l.take 8 else l.drop 8
/-- A word of what stands from a place on. -/
def wfrom (l : List Nat) (q k : Nat) : Nat := pk ((sg l q).drop (k - 8 * q))
theorem wfrom_same {l : List Nat} {j : Nat} (hj : j < l.length) (h16 : l.length ≤ 16) : wfrom l (j / 8) j = l.getD j 0 + 256 * wfrom l (j / 8) (j + 1) := by
  unfold wfrom sg
  by_cases h : j < 8
  · rw [show j / 8 = 0 by omega, if_pos rfl, show j - 8 * 0 = j by omega, show j + 1 - 8 * 0 = j + 1 by omega]
    rw [List.drop_eq_getElem_cons (i := j) (by rw [List.length_take]; omega)]
    rw [show ∀ a t, pk (a :: t) = a + 256 * pk t from fun _ _ => rfl]
    simp [List.getD_eq_getElem?_getD, hj]
  · rw [show j / 8 = 1 by omega, if_neg (by omega), show j + 1 - 8 * 1 = (j - 8 * 1) + 1 by omega]
    rw [List.drop_eq_getElem_cons (i := j - 8 * 1) (by rw [List.length_drop]; omega)]
    rw [show ∀ a t, pk (a :: t) = a + 256 * pk t from fun _ _ => rfl]
    have e : 8 + (j - 8 * 1) = j := by omega
    simp only [List.getElem_drop, e]
    simp [List.getD_eq_getElem?_getD, hj]
theorem wfrom_other {l : List Nat} {j q : Nat} (hq : q ≠ j / 8) (h2 : q < 2) (h16 : j < 16) : wfrom l q j = wfrom l q (j + 1) := by
  unfold wfrom sg
  rcases (show q = 0 ∨ q = 1 by omega) with rfl | rfl
  · rw [if_pos rfl, List.drop_of_length_le (by rw [List.length_take]; omega), List.drop_of_length_le (by rw [List.length_take]; omega)]
  · rw [show j - 8 * 1 = j + 1 - 8 * 1 by omega]
theorem wfrom_lt {l : List Nat} (q k : Nat) (h16 : l.length ≤ 16) (hb : ∀ b ∈ l, b < 256) : wfrom l q k < 18446744073709551616 := by
  unfold wfrom
  have h := pk_lt ((sg l q).drop (k - 8 * q)) (fun b hb' => by
    have := List.mem_of_mem_drop hb'
    unfold sg at this
    split at this
    · exact hb b (List.mem_of_mem_take this)
    · exact hb b (List.mem_of_mem_drop this))
  refine Nat.lt_of_lt_of_le h (Nat.le_trans (Nat.pow_le_pow_right (by omega) (show ((sg l q).drop (k - 8 * q)).length ≤ 8 from ?_)) (by decide))
  rw [List.length_drop]
  unfold sg
  split
  · rw [List.length_take]; omega
  · rw [List.length_drop]; omega
/-- The two words of what stands from a place on. -/
def cfrom (l : List Nat) (k : Nat) : Array Value := #[.int .u64 (wfrom l 0 k : Int), .int .u64 (wfrom l 1 k : Int)]
theorem cfrom_step {l : List Nat} {j : Nat} (hj : j < l.length) (h16 : l.length ≤ 16) :
    (cfrom l (j + 1)).setIfInBounds (j / 8) (.int .u64 ((l.getD j 0 + 256 * wfrom l (j / 8) (j + 1) : Nat) : Int)) = cfrom l j := by
  rw [← wfrom_same hj h16]
  unfold cfrom
  rcases (show j / 8 = 0 ∨ j / 8 = 1 by omega) with h | h
  · rw [h, ← wfrom_other (l := l) (j := j) (q := 1) (by omega) (by omega) (by omega)]; rfl
  · rw [h, ← wfrom_other (l := l) (j := j) (q := 0) (by omega) (by omega) (by omega)]; rfl
theorem cfrom_get {l : List Nat} {j k : Nat} (hj : j < 16) : (cfrom l k)[j / 8]? = some (.int .u64 (wfrom l (j / 8) k : Int)) := by
  unfold cfrom
  rcases (show j / 8 = 0 ∨ j / 8 = 1 by omega) with h | h <;> rw [h] <;> rfl
theorem cfrom_zero (l : List Nat) : cfrom l 0 = packed l := rfl
theorem cfrom_all (l : List Nat) (h16 : l.length ≤ 16) : cfrom l l.length = #[.int .u64 0, .int .u64 0] := by
  unfold cfrom wfrom sg
  rw [if_pos rfl, if_neg (by omega), List.drop_of_length_le (by rw [List.length_take]; omega), List.drop_of_length_le (by rw [List.length_drop]; omega)]
  rfl

theorem strRow (W : World) (s : ByteArray) : Row (fun b => W.heap.size ≤ b) (Lib.bytesWorld W 5 s) (some ⟨W.heap.size, 0, none⟩) s.size 1 (u8s (s.data.toList.map (·.toNat))) := by
  refine ⟨by simp [u8s], fun _ => ⟨_, _, rfl, Nat.le_refl _, fun j u hj => ?_⟩⟩
  have hjl : j < s.size := by
    have := (List.getElem?_eq_some_iff.1 hj).1
    simpa [u8s] using this
  rw [Nat.zero_add, Lib.bytesWorld_cell W 5 s j hjl, ← hj]
  simp [u8s, List.getD, hjl]
theorem strGrow (W : World) (s : ByteArray) : Grow W (Lib.bytesWorld W 5 s) :=
  ⟨rfl, rfl, rfl, by rw [Lib.bytesWorld_size]; omega, fun k hk => Lib.bytesWorld_at_old W 5 s k hk⟩

set_option maxRecDepth 100000 in
theorem rpack_bad (s : ByteArray) (h : s.size < 1 ∨ 15 < s.size) (w : World) :
    Calls Try.prog 65 #[.string s] w fun e w' => e = .returned (.tuple #[.agg #[.int .u64 0, .int .u64 0], .bool false]) ∧ Grow w w' := by
  have hg0 : Grow w (w.alloc (Obj.cells #[Value.int IntKind.u64 0, Value.int IntKind.u64 0] 37)) := (Below.refl _ _).alloc (Nat.le_refl _) _
  have hT := World.alloc_heap_new w (Obj.cells #[Value.int IntKind.u64 0, Value.int IntKind.u64 0] 37)
  by_cases h1 : s.size < 1
  · have t0 : decide ((s.size : Int) < 1) = true := decide_eq_true (by omega)
    go_enter Try.func65, Try.ntmps65
    go_wp2
    exact ret_pair (g := w.heap.size) rfl rfl rfl hT rfl ⟨rfl, hg0⟩
  · have t0 : decide ((s.size : Int) < 1) = false := decide_eq_false (by omega)
    have t1 : decide (15 < (s.size : Int)) = true := decide_eq_true (by omega)
    go_enter Try.func65, Try.ntmps65
    go_wp2
    exact ret_pair (g := w.heap.size) rfl rfl rfl hT rfl ⟨rfl, hg0⟩
end Go.Proofs.Ck

namespace Go.Proofs.Ck
open Go Go.RowKit

set_option maxRecDepth 100000 in
set_option maxHeartbeats 4000000 in
theorem rpack_ok (s : ByteArray) (h1 : 1 ≤ s.size) (h15 : s.size ≤ 15) (w : World) :
    Calls Try.prog 65 #[.string s] w fun e w' => e = .returned (.tuple #[.agg (packed (nm s)), .bool true]) ∧ Grow w w' := by
  obtain ⟨i5, hi5, hz5, hs5, hb5⟩ := info_parts info5
  have t0 : decide ((s.size : Int) < 1) = false := decide_eq_false (by omega)
  have t1 : decide (15 < (s.size : Int)) = false := decide_eq_false (by omega)
  have c0 : IntKind.u8.wrap (s.size : Int) = (s.size : Int) := by rw [IntKind.wrap_u8]; omega
  have hnl := nm_length s
  have hnb := nm_lt (s := s) (by omega)
  have hT0 := World.alloc_heap_new w (Obj.cells #[Value.int IntKind.u64 0, Value.int IntKind.u64 0] 37)
  have hg0 : Grow w (w.alloc (Obj.cells #[Value.int IntKind.u64 0, Value.int IntKind.u64 0] 37)) := (Below.refl _ _).alloc (Nat.le_refl _) _
  have hsz : (w.alloc (Obj.cells #[Value.int IntKind.u64 0, Value.int IntKind.u64 0] 37)).heap.size = w.heap.size + 1 := by simp
  go_enter Try.func65, Try.ntmps65
  go_wp2_with fail
  generalize w.alloc (Obj.cells #[Value.int IntKind.u64 0, Value.int IntKind.u64 0] 37) = wa at *
  have hcv := Lib.run_convert_string_bytes (P := Try.prog) (wa.alloc (Obj.cells #[Value.int IntKind.u8 (s.size : Int)] 5)) 9 30 5 s (u := .string) Try.underlying9 Try.underlying30 Try.underlying5
  have hsz2 : (wa.alloc (Obj.cells #[Value.int IntKind.u8 (s.size : Int)] 5)).heap.size = w.heap.size + 2 := by simp [hsz]
  have hR := strRow (wa.alloc (Obj.cells #[Value.int IntKind.u8 (s.size : Int)] 5)) s
  rw [hsz2] at hcv hR
  have hG1 : Grow w (wa.alloc (Obj.cells #[Value.int IntKind.u8 (s.size : Int)] 5)) := hg0.alloc (by omega) _
  have hG := hG1.trans (strGrow (wa.alloc (Obj.cells #[Value.int IntKind.u8 (s.size : Int)] 5)) s)
  have hT1 := (strGrow (wa.alloc (Obj.cells #[Value.int IntKind.u8 (s.size : Int)] 5)) s).heap ((Below.heap_alloc _ _ _ (by omega)).trans hT0)
  have hown1 : (wa.alloc (Obj.cells #[Value.int IntKind.u8 (s.size : Int)] 5)).ownsRow w.heap.size 5 1 (.slice (some ⟨w.heap.size + 1, 0, none⟩) 1 1) 1 [Value.int IntKind.u8 (s.size : Int)] := by
    have := World.ownsRow_lit (base := w.heap.size) (e := 5) (size := 1) wa #[Value.int IntKind.u8 (s.size : Int)] 1 (by omega) (by decide) rfl
    rw [hsz] at this
    exact this
  have hown2 := own_grow hown1 (strGrow (wa.alloc (Obj.cells #[Value.int IntKind.u8 (s.size : Int)] 5)) s)
  clear hG1 hown1 hT0 hg0
  generalize Lib.bytesWorld (wa.alloc (Obj.cells #[Value.int IntKind.u8 (s.size : Int)] 5)) 5 s = w3 at *
  generalize grownCap (wa.alloc (Obj.cells #[Value.int IntKind.u8 (s.size : Int)] 5)) s.size 0 5 = cap at *
  have hbase := hG.size
  rw [hcv]
  clear hcv hsz hsz2
  go_wp2_with (at_builtin; go_loud (refine wpList_append_row w3 rfl (.tmp 19) (.tmp 21) 30 rfl w.heap.size 5 i5 (.int .u8 0) 1 1 Try.underlying30 hi5 hz5 hs5 hb5 rfl (by decide) _ 1 _ rfl hown2 (some ⟨w.heap.size + 2, 0, none⟩) s.size cap _ rfl hR (fun h => by cases h) (u8s_one _) (by unfold maxLen; omega) (by omega) hbase ?_))
  intro v' w4 hown4 ho4
  have hg4 : Grow w w4 := grow_own hG hown2 ho4
  have hT4 := ho4.heap hT1 (by intro h; simp [Value.ownBlock] at h)
  have hown5 : w4.ownsRow w.heap.size 5 1 v' (1 + s.size) (u8s (nm s)) := hown4
  obtain ⟨g4, c4, cur, rfl, hg4b, hH4, hle, -, hz4, hcur⟩ := own_form hown5 (by omega)
  clear hown4 ho4 hG hT1 hown2 hR hown5
  have hsz4 := hg4.size
  have hT5 := (Below.heap_alloc w4 (Obj.cells #[Value.int IntKind.u64 0, Value.int IntKind.u64 0] 37) _ (lt_of_heap hT4)).trans hT4
  have hH5 := (Below.heap_alloc w4 (Obj.cells #[Value.int IntKind.u64 0, Value.int IntKind.u64 0] 37) _ (lt_of_heap hH4)).trans hH4
  have hB5 : (w4.alloc (Obj.cells #[Value.int IntKind.u64 0, Value.int IntKind.u64 0] 37)).heap[w4.heap.size]? = some (.cells (cfrom (nm s) (s.size + 1)) 37 (0, 0)) := by
    rw [← hnl, cfrom_all (nm s) (by omega)]
    exact World.alloc_heap_new w4 _
  have hg5 : Grow w (w4.alloc (Obj.cells #[Value.int IntKind.u64 0, Value.int IntKind.u64 0] 37)) := hg4.alloc hsz4 _
  have hlt4 := lt_of_heap hH4
  have hltT := lt_of_heap hT4
  go_wp2_with fail
  generalize w4.alloc (Obj.cells #[Value.int IntKind.u64 0, Value.int IntKind.u64 0] 37) = w5 at *
  generalize w4.heap.size = B5 at *
  clear hT4 hH4 hg4
  have hcur2 : ∀ j, j < (nm s).length → cur[j]? = some (Value.int IntKind.u8 (((nm s).getD j 0 : Nat) : Int)) := fun j hj => hcur j _ (by simp [u8s, List.getD, hj])
  clear hcur
  have hpk : cfrom (nm s) 0 = packed (nm s) := rfl
  generalize hlnm : nm s = l at *
  have HL := Lib.hid hlnm
  clear hlnm
  go_loopw [6] (fun i wr => ∃ (k : Nat) (x : Int), k ≤ s.size + 1 ∧ i = .int .i64 x ∧ x = (k : Int) - 1 ∧ Grow w wr ∧ wr.heap[B5]? = some (.cells (cfrom l k) 37 (0, 0)) ∧ wr.heap[g4]? = some (.cells cur 5 (0, 0)) ∧
      wr.heap[w.heap.size]? = some (.cells #[Value.int IntKind.u64 0, Value.int IntKind.u64 0] 37 (0, 0)))
    (fun i _ => (intOf i + 1).toNat)
  case atStart => exact ⟨s.size + 1, (s.size : Int), by omega, by go_num, by omega, hg5, hB5, hH5, hT5⟩
  case round =>
    obtain ⟨k, x, hk, rfl, hx, hg, hBk, hHk, hTk⟩ := hrel
    clear hg5 hB5 hH5 hT5
    rcases k with _ | j
    · have g0 : decide (0 ≤ x) = false := decide_eq_false (by omega)
      clear hx hk
      rw [hpk] at hBk
      have b0 : wr.cell? ⟨B5, 0, none⟩ = some (.int .u64 ((pk (l.take 8) : Nat) : Int)) := by rw [cell_of_heap hBk]; rfl
      have b1 : wr.cell? ⟨B5, 1, none⟩ = some (.int .u64 ((pk (l.drop 8) : Nat) : Int)) := by rw [cell_of_heap hBk]; rfl
      have T0 : wr.cell? ⟨w.heap.size, 0, none⟩ = some (.int .u64 0) := by rw [cell_of_heap hTk]; rfl
      have T1 : wr.cell? ⟨w.heap.size, 1, none⟩ = some (.int .u64 0) := by rw [cell_of_heap hTk]; rfl
      have F0 := frozen_of_heap hTk 0
      have F1 := frozen_of_heap hTk 1
      have hpk2 : packed l = #[.int .u64 ((pk (l.take 8) : Nat) : Int), .int .u64 ((pk (l.drop 8) : Nat) : Int)] := rfl
      clear hpk hcur2
      generalize pk (l.take 8) = p0 at *
      generalize pk (l.drop 8) = p1 at *
      go_wp2
      have hT2 := heap_setCell_row (heap_setCell_row hTk (i := 0) (.int .u64 (p0 : Int))) (i := 1) (.int .u64 (p1 : Int))
      refine ret_pair (g := w.heap.size) rfl rfl rfl hT2 rfl ⟨by rw [HL.out, hpk2]; rfl, ?_⟩
      exact (hg.setCell (Nat.le_refl _) _).setCell (Nat.le_refl _) _
    · obtain rfl : x = (j : Int) := by omega
      have hst := cfrom_step (l := l) (j := j) (by omega) (by omega)
      have hgt := cfrom_get (l := l) (j := j) (k := j + 1) (by omega)
      have hcj := hcur2 j (by omega)
      have hb := hnb (l.getD j 0) (by rw [List.getD_eq_getElem?_getD, List.getElem?_eq_getElem (by omega)]; exact List.getElem_mem _)
      have hlt := wfrom_lt (l := l) (j / 8) j (by omega) hnb
      rw [wfrom_same (l := l) (j := j) (by omega) (by omega)] at hlt
      have hcell : wr.cell? ⟨B5, j / 8, none⟩ = some (.int .u64 (wfrom l (j / 8) (j + 1) : Int)) := by rw [cell_of_heap hBk]; exact hgt
      have hcell2 : wr.cell? ⟨g4, j, none⟩ = some (.int .u8 ((l.getD j 0 : Nat) : Int)) := by rw [cell_of_heap hHk]; exact hcj
      have hfr := frozen_of_heap hBk (j / 8)
      clear hgt hcj hcur2 hpk
      have hS : cfrom l j = (cfrom l (j + 1)).setIfInBounds (j / 8) (.int .u64 ((l.getD j 0 + 256 * wfrom l (j / 8) (j + 1) : Nat) : Int)) := hst.symm
      clear hst
      have g0 : decide (0 ≤ (j : Int)) = true := decide_eq_true (by omega)
      have q1 : IntKind.i64.wrap ((j : Int) / 8) = ((j / 8 : Nat) : Int) := by rw [IntKind.wrap_i64]; omega
      have q2 : (j : Int) / 8 = ((j / 8 : Nat) : Int) := by omega
      have m1 : IntKind.u64.wrap (256 * (wfrom l (j / 8) (j + 1) : Int)) = ((256 * wfrom l (j / 8) (j + 1) : Nat) : Int) := by rw [IntKind.wrap_u64]; omega
      have m2 : IntKind.u64.wrap (((256 * wfrom l (j / 8) (j + 1) : Nat) : Int) + ((l.getD j 0 : Nat) : Int)) = ((l.getD j 0 + 256 * wfrom l (j / 8) (j + 1) : Nat) : Int) := by rw [IntKind.wrap_u64]; omega
      have c1 : IntKind.u64.wrap ((l.getD j 0 : Nat) : Int) = ((l.getD j 0 : Nat) : Int) := by rw [IntKind.wrap_u64]; omega
      have hq : j / 8 < 2 := by omega
      have al : Try.prog.arrayLen 37 = 2 := by kernel_rfl
      have hjx : (0 : Int) ≤ (j : Int) ∧ (j : Int) < 1 + (s.size : Int) := by omega
      have hjd : decide ((j : Int) < 1 + (s.size : Int)) = true := decide_eq_true (by omega)
      have hj63 : (j : Int) < 9223372036854775808 := by omega
      generalize (l.getD j 0 + 256 * wfrom l (j / 8) (j + 1)) = R at *
      generalize (256 * wfrom l (j / 8) (j + 1)) = M at *
      generalize wfrom l (j / 8) (j + 1) = V at *
      generalize l.getD j 0 = y at *
      generalize cfrom l (j + 1) = cs at *
      generalize hcl : cfrom l j = cs' at *
      have HS := Lib.hid hS
      have HC := Lib.hid hcl
      clear hS hcl
      generalize hqd : j / 8 = q at *
      have HQ := Lib.hid hqd
      clear hqd
      have hix : (0:Int) ≤ (q : Int) ∧ (q : Int) < 2 := by omega
      have hd : decide ((q : Int) < 2) = true := decide_eq_true (by omega)
      have hd0 : decide (0 ≤ (q : Int)) = true := decide_eq_true (by omega)
      have q3 : IntKind.i64.wrap (q : Int) = (q : Int) := by rw [IntKind.wrap_i64]; omega
      clear hx
      go_wp2_with fail
      go_still_tail 14, (by kernel_rfl)
      change wpList _ _ _ _ _ wr.drew
      have hg' : Grow w wr.drew := hg.drew
      have hB' : wr.drew.heap[B5]? = some (.cells cs 37 (0, 0)) := hBk
      have hH' : wr.drew.heap[g4]? = some (.cells cur 5 (0, 0)) := hHk
      have hT' : wr.drew.heap[w.heap.size]? = some (.cells #[Value.int IntKind.u64 0, Value.int IntKind.u64 0] 37 (0, 0)) := hTk
      have hcell' : wr.drew.cell? ⟨B5, q, none⟩ = some (.int .u64 (V : Int)) := hcell
      have hfr' : wr.drew.frozen? ⟨B5, q, none⟩ = false := hfr
      clear hcell hfr hBk hHk hTk hg hcell2
      generalize wr.drew = w2 at *
      go_wp2
      go_roundw
      case rel =>
        have o := (Only.refl (fun b => b = B5) w2).setCell (p := ⟨B5, q, none⟩) rfl (.int .u64 (R : Int))
        refine ⟨j, (j : Int) - 1, by omega, by go_num, rfl, hg'.setCell hsz4 _, ?_, o.heap hH' (by omega), o.heap hT' (by omega)⟩
        rw [HC.out, HS.out]
        exact heap_setCell_row hB' _
      case measure => simp [intOf]
end Go.Proofs.Ck

namespace Go.Proofs.Ck
open Go Go.RowKit

/-- A word when so many bytes have been taken. -/
def vleft (w0 w1 q i : Nat) : Nat := wd w0 w1 q / 256 ^ (min (i - 8 * q) 8)
theorem vleft_lt {w0 w1 : Nat} (h0 : w0 < 18446744073709551616) (h1 : w1 < 18446744073709551616) (q i : Nat) : vleft w0 w1 q i < 18446744073709551616 := by
  unfold vleft
  refine Nat.lt_of_le_of_lt (Nat.div_le_self _ _) ?_
  unfold wd
  split <;> assumption
theorem vleft_mod {w0 w1 i : Nat} (hi : i < 16) : vleft w0 w1 (i / 8) i % 256 = dg w0 w1 i := by
  rw [dg_wd w0 w1 i hi]
  unfold vleft byteOf
  rw [show min (i - 8 * (i / 8)) 8 = i % 8 by omega]
theorem vleft_div {w0 w1 i : Nat} : vleft w0 w1 (i / 8) i / 256 = vleft w0 w1 (i / 8) (i + 1) := by
  unfold vleft
  rw [show min (i - 8 * (i / 8)) 8 = i % 8 by omega, show min (i + 1 - 8 * (i / 8)) 8 = i % 8 + 1 by omega, Nat.div_div_eq_div_mul, Nat.pow_succ]
theorem vleft_other {w0 w1 i q : Nat} (hq : q ≠ i / 8) : vleft w0 w1 q i = vleft w0 w1 q (i + 1) := by
  unfold vleft
  rw [show min (i - 8 * q) 8 = min (i + 1 - 8 * q) 8 by omega]
/-- Both words when so many bytes have been taken. -/
def cleft (w0 w1 i : Nat) : Array Value := #[.int .u64 (vleft w0 w1 0 i : Int), .int .u64 (vleft w0 w1 1 i : Int)]
theorem cleft_step {w0 w1 i : Nat} (hi : i < 16) : (cleft w0 w1 i).setIfInBounds (i / 8) (.int .u64 ((vleft w0 w1 (i / 8) i / 256 : Nat) : Int)) = cleft w0 w1 (i + 1) := by
  rw [vleft_div]
  unfold cleft
  rcases (show i / 8 = 0 ∨ i / 8 = 1 by omega) with h | h
  · rw [h, ← vleft_other (i := i) (q := 1) (by omega)]; rfl
  · rw [h, ← vleft_other (i := i) (q := 0) (by omega)]; rfl
theorem cleft_get {w0 w1 i : Nat} (hi : i < 16) : (cleft w0 w1 i)[i / 8]? = some (.int .u64 (vleft w0 w1 (i / 8) i : Int)) := by
  unfold cleft
  rcases (show i / 8 = 0 ∨ i / 8 = 1 by omega) with h | h <;> rw [h] <;> rfl
theorem cleft_zero (w0 w1 : Nat) : cleft w0 w1 0 = #[.int .u64 (w0 : Int), .int .u64 (w1 : Int)] := by
  simp [cleft, vleft, wd]
/-- The bytes, so many. -/
def dl (w0 w1 n : Nat) : List Nat := (List.range n).map fun i => dg w0 w1 i
theorem dl_succ (w0 w1 n : Nat) : dl w0 w1 (n + 1) = dl w0 w1 n ++ [dg w0 w1 n] := by simp [dl, List.range_succ]
theorem dl_length (w0 w1 n : Nat) : (dl w0 w1 n).length = n := by simp [dl]
theorem dl_get {w0 w1 n j : Nat} (hj : j < n) : (u8s (dl w0 w1 n))[j]? = some (.int .u8 ((dg w0 w1 j : Nat) : Int)) := by simp [u8s, dl, hj]
theorem bl_get {w0 w1 n j : Nat} {u : Value} (h : (u8s (bl w0 w1 n))[j]? = some u) : j < n ∧ u = .int .u8 ((dg w0 w1 (j + 1) : Nat) : Int) := by
  have hj : j < n := by
    have := (List.getElem?_eq_some_iff.1 h).1
    simpa [u8s, bl] using this
  refine ⟨hj, ?_⟩
  simp [u8s, bl, hj] at h
  exact h.symm

theorem own_movedN {w w' : World} {base : Nat} {e : TypeId} {k n : Nat} {v : Value} {xs : List Value} (h : w.ownsRow base e k v n xs) (hm : ∀ b, v.ownBlock = some b → w'.heap[b]? = w.heap[b]?) : w'.ownsRow base e k v n xs := by
  refine ⟨h.1, ?_⟩
  rcases h.2 with h0 | ⟨g, cap, cur, rfl, hb, hg, hr⟩
  · exact .inl h0
  · exact .inr ⟨g, cap, cur, rfl, hb, (hm g rfl).trans hg, hr⟩

set_option maxRecDepth 100000 in
set_option maxHeartbeats 4000000 in
theorem rname_call (w : World) (w0 w1 : Nat) (h0 : w0 < 18446744073709551616) (h1 : w1 < 18446744073709551616) :
    Calls Try.prog 67 #[.agg #[.int .u64 (w0 : Int), .int .u64 (w1 : Int)]] w fun e w' => e = .returned (.tuple #[.string (nameOf w0 w1), .bool (decide (isName w0 w1))]) ∧ Grow w w' := by
  obtain ⟨i5, hi5, hz5, hs5, hb5⟩ := info_parts info5
  have hga : Grow w (w.alloc (.cells #[.int .u64 (w0 : Int), .int .u64 (w1 : Int)] 37)) := (Below.refl _ _).alloc (Nat.le_refl _) _
  have hB : (w.alloc (.cells #[.int .u64 (w0 : Int), .int .u64 (w1 : Int)] 37)).heap[w.heap.size]? = some (.cells (cleft w0 w1 0) 37 (0, 0)) := by
    rw [cleft_zero]; exact World.alloc_heap_new w _
  have hsz : (w.alloc (.cells #[.int .u64 (w0 : Int), .int .u64 (w1 : Int)] 37)).heap.size = w.heap.size + 1 := by simp
  have al : Try.prog.arrayLen 37 = 2 := by kernel_rfl
  go_enter Try.func67, Try.ntmps67
  go_wp2_with fail
  generalize w.alloc (.cells #[.int .u64 (w0 : Int), .int .u64 (w1 : Int)] 37) = wa at *
  go_loopw [4, 5] (fun s i wr => ∃ k : Nat, k ≤ 16 ∧ i = .int .i64 (k : Int) ∧ Grow w wr ∧ wr.heap[w.heap.size]? = some (.cells (cleft w0 w1 k) 37 (0, 0)) ∧ wr.ownsRow (w.heap.size + 1) 5 1 s k (u8s (dl w0 w1 k)))
    (fun _ i _ => 16 - (intOf i).toNat)
  case atStart => exact ⟨0, Nat.zero_le _, rfl, hga, hB, World.ownsRow_nil _ _ _ _⟩
  case round =>
    obtain ⟨k, hk, rfl, hg, hBk, hown⟩ := hrel
    clear hga hB hsz
    by_cases hlt : k < 16
    · have g0 : decide ((k : Int) < 16) = true := decide_eq_true (by omega)
      have hm := vleft_mod (w0 := w0) (w1 := w1) hlt
      have hst := cleft_step (w0 := w0) (w1 := w1) hlt
      have hgt := cleft_get (w0 := w0) (w1 := w1) hlt
      have hvl := vleft_lt h0 h1 (k / 8) k
      have hcell : wr.cell? ⟨w.heap.size, k / 8, none⟩ = some (.int .u64 (vleft w0 w1 (k / 8) k : Int)) := by rw [cell_of_heap hBk]; exact hgt
      have HD := Lib.hid (dl_succ w0 w1 k)
      have hyl := dg_lt w0 w1 k
      generalize dl w0 w1 k = L at *
      generalize dg w0 w1 k = y at *
      generalize vleft w0 w1 (k / 8) k = V at *
      generalize cleft w0 w1 k = cs at *
      have hv' : V / 256 < 18446744073709551616 := by omega
      have e1 : IntKind.u64.wrap ((V : Int) % 256) = (y : Int) := by rw [IntKind.wrap_u64]; omega
      have e2 : (V : Int) % 256 = (y : Int) := by omega
      have e3 : (V : Int).tmod 256 = (y : Int) := by rw [Int.tmod_eq_emod_of_nonneg (by omega)]; omega
      have e4 : IntKind.u8.wrap (y : Int) = (y : Int) := by rw [IntKind.wrap_u8]; omega
      have e5 : (V : Int) / 256 = ((V / 256 : Nat) : Int) := by omega
      have e6 : IntKind.u64.wrap ((V / 256 : Nat) : Int) = ((V / 256 : Nat) : Int) := by rw [IntKind.wrap_u64]; omega
      have q1 : IntKind.i64.wrap ((k : Int) / 8) = ((k / 8 : Nat) : Int) := by rw [IntKind.wrap_i64]; omega
      have q2 : (k : Int) / 8 = ((k / 8 : Nat) : Int) := by omega
      have hq : k / 8 < 2 := by omega
      generalize V / 256 = V' at *
      have HS := Lib.hid hst
      clear hst hm hgt
      generalize hqd : k / 8 = q at *
      clear hqd
      have q3 : IntKind.i64.wrap (q : Int) = (q : Int) := by rw [IntKind.wrap_i64]; omega
      have hix : (0:Int) ≤ (q : Int) ∧ (q : Int) < 2 := by omega
      have hbase : w.heap.size + 1 ≤ wr.heap.size := lt_of_heap hBk
      go_wp2_with (at_builtin; go_loud (refine wpList_pushN 1 wr rfl (.tmp 12) (.tmp 19) 30 rfl (w.heap.size + 1) 5 i5 (.int .u8 0) 1 1 Try.underlying30 hi5 hz5 hs5 hb5 rfl (by decide) u4 k _ rfl hown #[.int .u8 (y : Int)] rfl rfl (by simp [Value.oneCell']) rfl (by unfold maxLen; omega) (by omega) hbase ?_))
      intro v' w5 hown5 ho5
      have hlow : ∀ b, u4.ownBlock = some b → w.heap.size + 1 ≤ b := fun b hb => (World.ownsRow.lt hown b hb).1
      have hB5 := ho5.heap hBk (fun h => by have := hlow _ h; omega)
      have hg5 : Grow w w5 := Below.trans hg (ho5.below (n := w.heap.size) hg.size (fun b hb => by have := hlow b hb; omega))
      have hcell5 : w5.cell? ⟨w.heap.size, q, none⟩ = some (.int .u64 (V : Int)) := by rw [cell_of_heap hB5, ← cell_of_heap hBk]; exact hcell
      have hfr5 := frozen_of_heap hB5 q
      obtain ⟨A', c', rfl⟩ : ∃ A c, v' = .slice A (k + 1) c := by
        obtain ⟨g, c, _, e, _⟩ := own_form hown5 (by omega)
        exact ⟨_, c, e⟩
      clear hown ho5 hg hcell hlow hBk
      go_wp2
      go_roundw
      case rel =>
        refine ⟨k + 1, by omega, by go_num, hg5.setCell (Nat.le_refl _) _, ?_, ?_⟩
        · rw [← HS.out]; exact heap_setCell_row hB5 _
        · rw [HD.out, u8s_append]
          exact own_movedN hown5 (fun b hb => ((Only.refl (fun b => b = w.heap.size) w5).setCell (p := ⟨w.heap.size, q, none⟩) rfl _).block b (hown5.lt b hb).2 (by have := (hown5.lt b hb).1; omega))
      case measure => simp [intOf]; omega
    · obtain rfl : 16 = k := by omega
      obtain ⟨g4, c4, cur, rfl, hg4b, hH4, hle, -, hz4, hcur⟩ := own_form hown (by omega)
      have hcell : ∀ j, j < 16 → wr.cell? ⟨g4, j, none⟩ = some (.int .u8 ((dg w0 w1 j : Nat) : Int)) := fun j hj => by
        rw [cell_of_heap hH4]
        exact hcur j _ (dl_get hj)
      clear hcur hz4 hown hBk hH4
      have hc0 := hcell 0 (by omega)
      have hD := dg_lt w0 w1 0
      have g0 : decide (((16 : Nat) : Int) < 16) = false := decide_eq_false (by omega)
      have cv : IntKind.i64.wrap ((dg w0 w1 0 : Nat) : Int) = ((dg w0 w1 0 : Nat) : Int) := by rw [IntKind.wrap_i64]; omega
      by_cases hd1 : dg w0 w1 0 < 1
      · have t0 : decide (((dg w0 w1 0 : Nat) : Int) < 1) = true := decide_eq_true (by omega)
        have hn : ¬ isName w0 w1 := fun h => by have := h.1; omega
        clear hcell
        go_wp2
        go_ret2
        exact ⟨by rw [nameOf, if_neg hn, decide_eq_false hn]; rfl, hg⟩
      · have t0 : decide (((dg w0 w1 0 : Nat) : Int) < 1) = false := decide_eq_false (by omega)
        by_cases hd15 : 15 < dg w0 w1 0
        · have t1 : decide (15 < ((dg w0 w1 0 : Nat) : Int)) = true := decide_eq_true (by omega)
          have hn : ¬ isName w0 w1 := fun h => by have := h.2.1; omega
          clear hcell
          go_wp2
          go_ret2
          exact ⟨by rw [nameOf, if_neg hn, decide_eq_false hn]; rfl, hg⟩
        · have t1 : decide (15 < ((dg w0 w1 0 : Nat) : Int)) = false := decide_eq_false (by omega)
          generalize hDD : dg w0 w1 0 = D at *
          have HDD := Lib.hid hDD
          clear hDD
          have HC := Lib.hid hcell
          clear hcell
          have s1 : IntKind.i64.wrap ((D : Int) + 1) = (D : Int) + 1 := by rw [IntKind.wrap_i64]; omega
          go_wp2_with fail
          go_loopw [7] (fun i wk => ∃ k : Nat, D < k ∧ k ≤ 16 ∧ i = .int .i64 (k : Int) ∧ wk = wr ∧ ∀ j, D < j → j < k → dg w0 w1 j = 0)
            (fun i _ => 16 - (intOf i).toNat)
          case atStart => exact ⟨D + 1, by omega, by omega, by go_num, by trivial, fun j _ _ => by omega⟩
          case round =>
            obtain ⟨k, hk1, hk2, rfl, rfl, hall⟩ := hrel
            have HA := Lib.hid hall
            clear hall
            by_cases hk : k < 16
            · have g1 : decide ((k : Int) < 16) = true := decide_eq_true (by omega)
              have hck := HC.out k hk
              have hix : (0:Int) ≤ (k : Int) ∧ (k : Int) < 16 := by omega
              by_cases hz : dg w0 w1 k = 0
              · rw [hz] at hck
                have HZ := Lib.hid hz
                clear hz
                go_wp2
                go_roundw
                case rel =>
                  refine ⟨k + 1, by omega, by omega, by go_num, by trivial, fun j h1 h2 => ?_⟩
                  rcases (show j < k ∨ j = k by omega) with h | rfl
                  · exact HA.out j h1 h
                  · exact HZ.out
                case measure => simp [intOf]; omega
              · have hn : ¬ isName w0 w1 := fun h => hz (h.2.2 k (by rw [HDD.out]; exact hk1) hk)
                have t2 : (((dg w0 w1 k : Nat) : Int) == 0) = false := by rw [beq_eq_false_iff_ne]; omega
                go_wp2
                go_ret2
                exact ⟨by rw [nameOf, if_neg hn, decide_eq_false hn]; rfl, hg⟩
            · obtain rfl : 16 = k := by omega
              have hn : isName w0 w1 := ⟨by rw [HDD.out]; omega, by rw [HDD.out]; omega, fun j h1 h2 => HA.out j (by rw [← HDD.out]; exact h1) h2⟩
              have HN := Lib.hid hn
              clear hn
              have hconv := run_string (w := wr) (A := some ⟨g4, 1, none⟩) (c := c4 - 1) (n := D) (S := fun _ => True) (l := bl w0 w1 D) ⟨by rw [u8s_length]; simp, fun _ => ⟨_, _, rfl, trivial, fun j u hj => by
                obtain ⟨hj2, rfl⟩ := bl_get hj
                rw [Nat.add_comm 1 j]
                exact HC.out (j + 1) (by omega)⟩⟩ (bl_length w0 w1 D)
              have s2 : IntKind.i64.wrap (1 + (D : Int)) = 1 + (D : Int) := by rw [IntKind.wrap_i64]; omega
              have g2 : decide ((D : Int) < 16) = true := decide_eq_true (by omega)
              go_wp2
              go_ret2
              exact ⟨by rw [nameOf, if_pos HN.out, decide_eq_true HN.out, HDD.out]; rfl, hg⟩
end Go.Proofs.Ck

namespace Go.Proofs.Ck
open Go Go.RowKit

theorem nm_bytes (s : ByteArray) (n : Nat) (hn : n = s.size) : (nm s).drop 1 = s.data.toList.map (·.toNat) ∧ (nm s).getD 0 0 = n := by
  subst hn; exact ⟨rfl, rfl⟩
theorem dg_packed (s : ByteArray) (h15 : s.size ≤ 15) : ∀ i, i < 16 → (nm s).getD i 0 = dg (pk ((nm s).take 8)) (pk ((nm s).drop 8)) i := by
  have hb := nm_lt (s := s) (by omega)
  have hl := nm_length s
  refine (packed_eq (by omega) hb ?_ ?_).1 ⟨rfl, rfl⟩
  · have := pk_lt ((nm s).take 8) (fun b hb' => hb b (List.mem_of_mem_take hb'))
    exact Nat.lt_of_lt_of_le this (Nat.le_trans (Nat.pow_le_pow_right (by omega) (show ((nm s).take 8).length ≤ 8 by rw [List.length_take]; omega)) (by decide))
  · have := pk_lt ((nm s).drop 8) (fun b hb' => hb b (List.mem_of_mem_drop hb'))
    exact Nat.lt_of_lt_of_le this (Nat.le_trans (Nat.pow_le_pow_right (by omega) (show ((nm s).drop 8).length ≤ 8 by rw [List.length_drop]; omega)) (by decide))
theorem pk8_lt {l : List Nat} (hb : ∀ b ∈ l, b < 256) (hl : l.length ≤ 8) : pk l < 18446744073709551616 :=
  Nat.lt_of_lt_of_le (pk_lt l hb) (Nat.le_trans (Nat.pow_le_pow_right (by omega) hl) (by decide))
theorem name_packed (s : ByteArray) (h1 : 1 ≤ s.size) (h15 : s.size ≤ 15) : isName (pk ((nm s).take 8)) (pk ((nm s).drop 8)) ∧ nameOf (pk ((nm s).take 8)) (pk ((nm s).drop 8)) = s := by
  have hd := dg_packed s h15
  have hl := nm_length s
  have d0 : dg (pk ((nm s).take 8)) (pk ((nm s).drop 8)) 0 = s.size := (hd 0 (by omega)).symm
  have hn : isName (pk ((nm s).take 8)) (pk ((nm s).drop 8)) := by
    refine ⟨by omega, by omega, fun i hi h16 => ?_⟩
    rw [← hd i h16]
    rw [d0] at hi
    simp [List.getD_eq_getElem?_getD, List.getElem?_eq_none (show (nm s).length ≤ i by omega)]
  refine ⟨hn, ?_⟩
  rw [nameOf, if_pos hn, d0]
  have e : bl (pk ((nm s).take 8)) (pk ((nm s).drop 8)) s.size = s.data.toList.map (·.toNat) := by
    apply List.ext_getElem
    · rw [bl_length]; simp
    · intro i h1' h2'
      rw [bl_length] at h1'
      have := hd (i + 1) (by omega)
      simp only [bl, List.getElem_map, List.getElem_range]
      rw [← this]
      simp [nm, List.getD_eq_getElem?_getD, h1']
  rw [e, strOf_bytes]

/-- What both packs make of a string. -/
theorem packs_any (s : ByteArray) : ∃ (p0 p1 : Nat) (b : Bool), p0 < 18446744073709551616 ∧ p1 < 18446744073709551616 ∧
    (∀ w, Calls Try.prog 64 #[.string s] w fun e w' => e = .returned (.tuple #[.agg #[.int .u64 (p0 : Int), .int .u64 (p1 : Int)], .bool b]) ∧ Grow w w') ∧
    (∀ w, Calls Try.prog 65 #[.string s] w fun e w' => e = .returned (.tuple #[.agg #[.int .u64 (p0 : Int), .int .u64 (p1 : Int)], .bool b]) ∧ Grow w w') ∧
    decide (isName p0 p1) = b ∧ (b = true → nameOf p0 p1 = s) ∧ (1 ≤ s.size → s.size ≤ 15 → b = true ∧ p0 = pk ((nm s).take 8) ∧ p1 = pk ((nm s).drop 8)) := by
  by_cases h : 1 ≤ s.size ∧ s.size ≤ 15
  · obtain ⟨h1, h15⟩ := h
    have hb := nm_lt (s := s) (by omega)
    have hl := nm_length s
    obtain ⟨hn, he⟩ := name_packed s h1 h15
    refine ⟨pk ((nm s).take 8), pk ((nm s).drop 8), true, pk8_lt (fun b h => hb b (List.mem_of_mem_take h)) (by rw [List.length_take]; omega), pk8_lt (fun b h => hb b (List.mem_of_mem_drop h)) (by rw [List.length_drop]; omega),
      fun w => pack_ok s h1 h15 w, fun w => rpack_ok s h1 h15 w, decide_eq_true hn, fun _ => he, fun _ _ => ⟨rfl, rfl, rfl⟩⟩
  · refine ⟨0, 0, false, by omega, by omega, fun w => pack_bad s (by omega) w, fun w => rpack_bad s (by omega) w, ?_, fun h => (by cases h), fun h1 h15 => absurd ⟨h1, h15⟩ h⟩
    refine decide_eq_false fun hn => ?_
    have := hn.1
    simp [dg, byteOf] at this
/-- What a pack makes of two words' name. -/
theorem packs_name {w0 w1 : Nat} (h0 : w0 < 18446744073709551616) (h1 : w1 < 18446744073709551616) {p0 p1 : Nat} {b : Bool} (hn : isName w0 w1)
    (h : 1 ≤ (nameOf w0 w1).size → (nameOf w0 w1).size ≤ 15 → b = true ∧ p0 = pk ((nm (nameOf w0 w1)).take 8) ∧ p1 = pk ((nm (nameOf w0 w1)).drop 8)) : b = true ∧ p0 = w0 ∧ p1 = w1 := by
  have e : nameOf w0 w1 = strOf (bl w0 w1 (dg w0 w1 0)) := if_pos hn
  have hs : (nameOf w0 w1).size = dg w0 w1 0 := by rw [e, strOf_size, bl_length]
  obtain ⟨r1, r2, r3⟩ := h (by rw [hs]; exact hn.1) (by rw [hs]; exact hn.2.1)
  have hh := hn.2.1
  have hh1 := hn.1
  have := (packs_iff (n := dg w0 w1 0) h0 h1 (by omega) hn.1).2 hn
  rw [← e] at this
  exact ⟨r1, by rw [r2]; exact this.1, by rw [r3]; exact this.2⟩
end Go.Proofs.Ck
