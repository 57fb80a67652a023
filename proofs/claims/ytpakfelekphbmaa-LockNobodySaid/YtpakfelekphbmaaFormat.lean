/- A segment's head: the program's Format. -/
import Derived.Test.YtpakfelekphbmaaTxNew
import Derived.Test.YtpakfelekphbmaaWord
namespace Go.Proofs.Ck
open Go Go.RowKit

/-- The checksum of a size. -/
def ckSum (size : Nat) : Nat := (7161130718081542961 ^^^ size) * 11400714819323198485 % 18446744073709551616
theorem ckSum_lt (size : Nat) : ckSum size < 18446744073709551616 := Nat.mod_lt _ (by omega)
def fits (size all : Nat) : Prop := size % 16 = 0 ∧ 3824 ≤ size ∧ size ≤ all
/-- The words of a segment, formatted. -/
def fmtW (n size : Nat) : List Nat :=
  (((((((List.replicate n 0).set 0 7161130718081542961).set 1 1).set 2 size).set 4 3776).set 5 (ckSum size)).set 472 (size - 3776)).set (size / 8 - 1) (size - 3776)
theorem fmtW_length (n size : Nat) : (fmtW n size).length = n := by simp [fmtW]

theorem sum_call (size : Nat) (hs : size < 18446744073709551616) (w : World) : Calls Try.prog 185 #[.int .u64 (size : Int)] w fun e w' => e = .returned (.int .u64 ((ckSum size : Nat) : Int)) ∧ w = w' := by
  have f : bits .xor .u64 7161130718081542961 (size : Int) = ((7161130718081542961 ^^^ size : Nat) : Int) := bits_xor_u64_nat 7161130718081542961 size (by omega) hs
  have m := mix (7161130718081542961 ^^^ size) w
  unfold ckSum
  generalize (7161130718081542961 ^^^ size) * 11400714819323198485 % 18446744073709551616 = r at *
  generalize 7161130718081542961 ^^^ size = x at *
  go_enter Try.func185, Try.ntmps185
  go_wp2_with fail
  refine m.mono ?_
  rintro e w' ⟨rfl, rfl⟩
  go_wp2
  go_ret
  exact ⟨rfl, rfl⟩

theorem fits_ok (size all : Nat) (h : fits size all) (w : World) : Calls Try.prog 183 #[.int .u64 (size : Int), .int .u64 (all : Int)] w fun e w' => e = .returned (.bool true) ∧ w = w' := by
  obtain ⟨h1, h2, h3⟩ := h
  have t1 : ((size : Int) % 16 == 0) = true := by rw [beq_iff_eq]; omega
  have t2 : decide ((3824 : Int) ≤ size) = true := decide_eq_true (by omega)
  have t3 : decide ((size : Int) ≤ all) = true := decide_eq_true (by omega)
  go_enter Try.func183, Try.ntmps183
  go_wp2
  go_ret
  exact ⟨rfl, rfl⟩

theorem put_call {w : World} {sb bb cap bx : Nat} {cs : Array Value} {W : List Nat} (h : SegRep w sb bb cap cs W) (hb : w.heap[bx]? = some (.cells #[.pointer (some ⟨sb, 0, none⟩)] 26 (0, 0))) (off v : Nat) (hm : off % 8 = 0) (hl : off / 8 < W.length) (hv : v < 18446744073709551616) :
    Calls Try.prog 184 #[.int .u64 (off : Int), .int .u64 (v : Int), .pointer (some ⟨bx, 0, none⟩)] w fun e w' => e = .returned (.tuple #[]) ∧ (∃ cs', SegRep w' sb bb cap cs' (W.set (off / 8) v)) ∧ Only (· = bb) w w' := by
  have c0 : w.cell? ⟨bx, 0, none⟩ = some (.pointer (some ⟨sb, 0, none⟩)) := by rw [cell_of_heap hb]; rfl
  have hs := store_ok h off v hm hl hv
  go_enter Try.func184, Try.ntmps184
  go_wp2_with fail
  refine hs.mono ?_
  rintro e w' ⟨rfl, h1, h2⟩
  go_wp2
  go_end0
  exact ⟨rfl, h1, h2⟩

set_option maxRecDepth 100000 in
set_option maxHeartbeats 2000000 in
theorem format_ok {w : World} {sb bb cap : Nat} {cs : Array Value} {W : List Nat} (h : SegRep w sb bb cap cs W) (size : Nat) (hf : fits size (8 * W.length)) (h4 : size < 18446744073709551616) :
    Calls Try.prog 153 #[.pointer (some ⟨sb, 0, none⟩), .int .u64 (size : Int)] w fun e w' => e = .returned (.int .i64 0) ∧ (∃ cs', SegRep w' sb bb cap cs' (fmtW W.length size)) ∧ Only (· = bb) w w' := by
  have hsm := h.small
  have hsb := h.lt
  have hbb := h.lt'
  have hg0 : Grow w (w.alloc (.cells #[.pointer (some ⟨sb, 0, none⟩)] 26)) := (Below.refl _ _).alloc (Nat.le_refl _) _
  have hB : (w.alloc (.cells #[.pointer (some ⟨sb, 0, none⟩)] 26)).heap[w.heap.size]? = some (.cells #[.pointer (some ⟨sb, 0, none⟩)] 26 (0, 0)) := World.alloc_heap_new w _
  have h0 := h.grow hg0
  have hfc := fits_ok size (8 * W.length) hf
  obtain ⟨hf1, hf2, hf3⟩ := hf
  go_enter Try.func153, Try.ntmps153
  go_wp2_with fail
  generalize w.alloc (.cells #[.pointer (some ⟨sb, 0, none⟩)] 26) = w0 at hg0 hB h0 ⊢
  refine (size_any (.inr ⟨_, _, _, _, rfl, h0⟩)).mono ?_
  rintro e w' ⟨rfl, rfl⟩
  go_wp2_with fail
  refine (hfc w0).mono ?_
  rintro e w' ⟨rfl, rfl⟩
  clear hfc
  have c0 : w0.cell? ⟨w.heap.size, 0, none⟩ = some (.pointer (some ⟨sb, 0, none⟩)) := by rw [cell_of_heap hB]; rfl
  go_wp2_with fail
  go_loopw [5] (fun x wr => ∃ (k : Nat) (W0 : List Nat) (cs0 : Array Value), k ≤ W.length ∧ x = .int .u64 (8 * (k : Int)) ∧ Only (· = bb) w wr ∧ wr.heap[w.heap.size]? = some (.cells #[.pointer (some ⟨sb, 0, none⟩)] 26 (0, 0)) ∧
      SegRep wr sb bb cap cs0 W0 ∧ W0.length = W.length ∧ ∀ i, i < k → W0[i]? = some 0)
    (fun x _ => 8 * W.length - (intOf x).toNat)
  case atStart => exact ⟨0, W, cs, by omega, rfl, .of_below hg0, hB, h0, rfl, fun i hi => by omega⟩
  case round =>
    obtain ⟨k, W0, cs0, hk, rfl, ho, hb, hs, hn, hz⟩ := hrel
    clear hg0 hB h0 c0
    have cb : wr.cell? ⟨w.heap.size, 0, none⟩ = some (.pointer (some ⟨sb, 0, none⟩)) := by rw [cell_of_heap hb]; rfl
    have HZ := Lib.hid hz
    clear hz
    have hsz := size_any (.inr ⟨_, _, _, _, rfl, hs⟩)
    rw [hn, show ((8 * W.length : Nat) : Int) = 8 * (W.length : Int) from by omega] at hsz
    by_cases hlt : k < W.length
    · have g0 : decide (8 * (k : Int) < 8 * W.length) = true := decide_eq_true (by omega)
      go_wp2_with fail
      refine hsz.mono ?_
      rintro e w' ⟨rfl, rfl⟩
      have hst := store_ok hs (8 * k) 0 (by omega) (by omega) (by omega)
      rw [show ((8 * k : Nat) : Int) = 8 * (k : Int) from by omega, show 8 * k / 8 = k from by omega] at hst
      go_wp2_with fail
      refine hst.mono ?_
      rintro e wn ⟨rfl, ⟨csn, hsn⟩, hon⟩
      have hbn := hon.heap hb (by omega)
      have hon' := ho.trans hon
      clear hsz hst hs hb ho cb hon
      go_wp2
      go_roundw
      case rel =>
        refine ⟨k + 1, _, csn, by omega, by go_num, hon', hbn, hsn, by rw [List.length_set, hn], fun i hi => ?_⟩
        by_cases hik : i = k
        · subst hik
          rw [List.getElem?_set_self (by omega)]
        · rw [List.getElem?_set_ne (by omega)]
          exact HZ.out i (by omega)
      case measure => simp [intOf]; omega
    · obtain rfl : k = W.length := by omega
      have hW0 : W0 = List.replicate W.length 0 := by
        apply List.ext_getElem?
        intro i
        by_cases hi : i < W.length
        · rw [HZ.out i hi, List.getElem?_replicate, if_pos hi]
        · rw [List.getElem?_eq_none (by omega), List.getElem?_eq_none (by simp; omega)]
      subst hW0
      have g0 : decide (8 * (W.length : Int) < 8 * W.length) = false := decide_eq_false (by omega)
      go_wp2_with fail
      refine hsz.mono ?_
      rintro e w' ⟨rfl, rfl⟩
      have hs1 := hs
      have hb1 := hb
      have ho1 := ho
      clear hs hb ho HZ hsz hk hlt
      go_wp2_with fail
      refine (put_call hs1 hb1 0 7161130718081542961 (by omega) (by rw [hn]; omega) (by omega)).mono ?_
      rintro e w2 ⟨rfl, ⟨cs2, hs2⟩, hq2⟩
      have hb2 := hq2.heap hb1 (by omega)
      have ho2 := ho1.trans hq2
      clear hs1 hb1 ho1 hq2
      go_wp2_with fail
      refine (put_call hs2 hb2 8 1 (by omega) (by simp only [List.length_set, hn]; omega) (by omega)).mono ?_
      rintro e w3 ⟨rfl, ⟨cs3, hs3⟩, hq3⟩
      have hb3 := hq3.heap hb2 (by omega)
      have ho3 := ho2.trans hq3
      clear hs2 hb2 ho2 hq3
      go_wp2_with fail
      refine (put_call hs3 hb3 16 size (by omega) (by simp only [List.length_set, hn]; omega) h4).mono ?_
      rintro e w4 ⟨rfl, ⟨cs4, hs4⟩, hq4⟩
      have hb4 := hq4.heap hb3 (by omega)
      have ho4 := ho3.trans hq4
      clear hs3 hb3 ho3 hq4
      go_wp2_with fail
      refine (put_call hs4 hb4 32 3776 (by omega) (by simp only [List.length_set, hn]; omega) (by omega)).mono ?_
      rintro e w5 ⟨rfl, ⟨cs5, hs5⟩, hq5⟩
      have hb5 := hq5.heap hb4 (by omega)
      have ho5 := ho4.trans hq5
      clear hs4 hb4 ho4 hq5
      go_wp2_with fail
      refine (sum_call size h4 w5).mono ?_
      rintro e w' ⟨rfl, rfl⟩
      go_wp2_with fail
      refine (put_call hs5 hb5 40 (ckSum size) (by omega) (by simp only [List.length_set, hn]; omega) (ckSum_lt size)).mono ?_
      rintro e w6 ⟨rfl, ⟨cs6, hs6⟩, hq6⟩
      have hb6 := hq6.heap hb5 (by omega)
      have ho6 := ho5.trans hq6
      clear hs5 hb5 ho5 hq6
      have hp6 := put_call hs6 hb6 3776 (size - 3776) (by omega) (by simp only [List.length_set, hn]; omega) (by omega)
      rw [show ((size - 3776 : Nat) : Int) = (size : Int) - 3776 from by omega] at hp6
      go_wp2_with fail
      refine hp6.mono ?_
      rintro e w7 ⟨rfl, ⟨cs7, hs7⟩, hq7⟩
      have hb7 := hq7.heap hb6 (by omega)
      have ho7 := ho6.trans hq7
      clear hs6 hb6 ho6 hq7 hp6
      have hp7 := put_call hs7 hb7 (size - 8) (size - 3776) (by omega) (by simp only [List.length_set, hn]; omega) (by omega)
      rw [show ((size - 3776 : Nat) : Int) = (size : Int) - 3776 from by omega, show ((size - 8 : Nat) : Int) = (size : Int) - 8 from by omega] at hp7
      go_wp2_with fail
      refine hp7.mono ?_
      rintro e w8 ⟨rfl, ⟨cs8, hs8⟩, hq8⟩
      have ho8 := ho7.trans hq8
      clear hs7 hb7 ho7 hq8 hp7
      have HS := Lib.hid hs8
      clear hs8
      go_wp2
      go_ret
      refine ⟨rfl, ⟨cs8, ?_⟩, ho8⟩
      have hs8 := HS.out
      rw [show (size - 8) / 8 = size / 8 - 1 from by omega] at hs8
      exact hs8
end Go.Proofs.Ck
