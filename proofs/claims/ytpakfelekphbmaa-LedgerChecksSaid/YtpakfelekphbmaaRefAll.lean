/- The document's clients of a state; are two lists of numbers the same? -/
import Derived.Test.YtpakfelekphbmaaRef8
import Derived.Test.YtpakfelekphbmaaLawRow
import Derived.Deep.QuietTactic
import Derived.BigQuiet
namespace Go.Proofs.Ck
open Go Go.RowKit

theorem i64s_get {l : List Nat} {i : Nat} (hi : i < l.length) : (i64s l)[i]? = some (.int .i64 ((l.getD i 0 : Nat) : Int)) := by
  simp [i64s, List.getD_eq_getElem?_getD, List.getElem?_eq_getElem hi]

set_option maxRecDepth 100000 in
set_option maxHeartbeats 1000000 in
theorem ints_self {S S' : Nat → Prop} {w : World} {A A' : Option Addr} {c c' : Nat} {l : List Nat} (h0 : Row S w A l.length 1 (i64s l)) (h1 : Row S' w A' l.length 1 (i64s l)) (hn : l.length ≤ 17592186044416) :
    Calls Try.prog 123 #[.slice A l.length c, .slice A' l.length c'] w fun e w' => e = .returned (.bool true) ∧ Grow w w' := by
  go_enter Try.func123, Try.ntmps123
  go_wp2
  go_loopw [5] (fun i wr => ∃ k : Nat, k ≤ l.length ∧ i = .int .i64 (k : Int) ∧ Grow w wr) (fun i _ => l.length - (intOf i).toNat)
  case atStart => exact ⟨0, Nat.zero_le _, rfl, Below.refl _ _⟩
  case round =>
    obtain ⟨k, hk, rfl, hg⟩ := hrel
    by_cases hlt : k < l.length
    · obtain ⟨b, o, rfl, _, hc⟩ := (h0.grow hg).pos (by omega) (by omega)
      obtain ⟨b', o', rfl, _, hc'⟩ := (h1.grow hg).pos (by omega) (by omega)
      have hx := hc _ _ (i64s_get hlt)
      have hx' := hc' _ _ (i64s_get hlt)
      clear hc hc' h0 h1
      generalize l.getD k 0 = x at *
      have t2 : ((x : Int) == x) = true := by simp
      have t3 : ((x : Int) != x) = false := by simp
      have g0 : decide ((k : Int) < l.length) = true := decide_eq_true (by omega)
      go_wp2
      go_quiet (fail)
      go_wp2
      go_roundw
      case rel => exact ⟨k + 1, by omega, by go_num, hg.drewN nq⟩
      case measure => simp [intOf]; omega
    · obtain rfl : k = l.length := by omega
      have g0 : decide ((l.length : Int) < l.length) = false := decide_eq_false (by omega)
      clear h0 h1
      go_wp2
      go_ret
      exact ⟨rfl, hg⟩

set_option maxRecDepth 100000 in
set_option maxHeartbeats 1000000 in
theorem rall {rv : Value} {f : Nat → Nat} {w : World} {X : Nat → Prop} (h : RefF rv f w X) (s : Nat) :
    Calls Try.prog 124 #[rv, .int .u64 (s : Int)] w fun e w' => ∃ A c, e = .returned (.slice A (sts f s 8).length c) ∧ Row (fun b => w.heap.size ≤ b) w' A (sts f s 8).length 1 (i64s (sts f s 8)) ∧ Grow w w' := by
  obtain ⟨A, n, c', B, m, d, rfl⟩ := h.agg
  obtain ⟨i3, hi3, hz3, hs3, hb3⟩ := info_parts info3
  have hga : Grow w (w.alloc (.cells #[.slice A n c', .slice B m d] 67)) := (Below.refl _ _).alloc (Nat.le_refl _) _
  have hB := World.alloc_heap_new w (.cells #[.slice A n c', .slice B m d] 67)
  have h1 := h.grow hga
  clear h
  go_enter Try.func124, Try.ntmps124
  go_wp2_with fail
  generalize w.alloc (.cells #[.slice A n c', .slice B m d] 67) = w1 at *
  go_loopw [5, 6] (fun s' i wr => ∃ k : Nat, k ≤ 8 ∧ i = .int .i64 (k : Int) ∧ Grow w1 wr ∧ wr.ownsRow w1.heap.size 3 1 s' (sts f s k).length (i64s (sts f s k))) (fun _ i _ => 8 - (intOf i).toNat)
  case atStart => exact ⟨0, Nat.zero_le _, rfl, Below.refl _ _, World.ownsRow_nil _ _ _ _⟩
  case round =>
    obtain ⟨k, hk, rfl, hg, hown⟩ := hrel
    by_cases hlt : k < 8
    · have hBr := hg.heap hB
      have b0 : wr.cell? ⟨w.heap.size, 0, none⟩ = some (.slice A n c') := by rw [cell_of_heap hBr]; rfl
      have b1 : wr.cell? ⟨w.heap.size, 1, none⟩ = some (.slice B m d) := by rw [cell_of_heap hBr]; rfl
      have hgt := rget_any (h1.grow hg) (k : Int) 0 rfl (by omega)
      rw [get_of hlt rfl rfl] at hgt
      have g0 : decide ((k : Int) < 8) = true := decide_eq_true (by omega)
      have hln := sts_len f s k
      have hbase := hg.size
      by_cases hh : f (64 + 416 * k) = s
      · have HST := Lib.hid (sts_hit hh)
        rw [show f (64 + 416 * k + 0) = s from hh] at hgt
        have t0 : ((s : Int) == s) = true := by simp
        clear hh
        generalize sts f s k = L at *
        go_wp2_with fail
        refine (show Calls _ _ #[_, _, .int .u64 0] _ _ from hgt).mono ?_
        rintro e w2 ⟨rfl, hg2⟩
        have hown2 := own_grow hown hg2
        have hgf := hg.trans hg2
        have hbase2 := hgf.size
        clear hgt hown hg hg2 b0 b1 hBr
        go_wp2_with (at_builtin; refine wpList_push w2 rfl (.tmp 16) (.tmp 18) 112 rfl w1.heap.size 3 i3 _ 1 8 Try.underlying112 hi3 hz3 hs3 hb3 rfl (by decide) u5 L.length _ rfl hown2 #[.int .i64 (k : Int)] rfl rfl (by simp [Value.oneCell']) rfl (by unfold maxLen; omega) (by omega) hbase2 ?_)
        intro v' w3 hown3 ho3
        obtain ⟨A3, c3, rfl⟩ : ∃ A c, v' = .slice A (L.length + 1) c := by
          obtain ⟨g, c, _, e, _⟩ := own_form hown3 (by omega)
          exact ⟨_, c, e⟩
        have hg3 : Grow w1 w3 := grow_own hgf hown2 ho3
        clear hown2 ho3
        go_wp2
        go_roundw
        case rel =>
          refine ⟨k + 1, by omega, by go_num, hg3, ?_⟩
          rw [HST.out, List.length_append, i64s_snoc]
          exact hown3
        case measure => simp [intOf]; omega
      · have HST := Lib.hid (sts_miss hh)
        have t0 : ((f (64 + 416 * k) : Int) == s) = false := by rw [beq_eq_false_iff_ne]; omega
        rw [show f (64 + 416 * k + 0) = f (64 + 416 * k) from rfl] at hgt
        generalize f (64 + 416 * k) = y at *
        clear hh
        go_wp2_with fail
        refine (show Calls _ _ #[_, _, .int .u64 0] _ _ from hgt).mono ?_
        rintro e w2 ⟨rfl, hg2⟩
        have hown2 := own_grow hown hg2
        have hgf := hg.trans hg2
        clear hgt hown hg hg2 b0 b1 hBr
        go_wp2
        go_roundw
        case rel =>
          refine ⟨k + 1, by omega, by go_num, hgf, ?_⟩
          rw [HST.out]
          exact hown2
        case measure => simp [intOf]; omega
    · obtain rfl : k = 8 := by omega
      have g0 : decide (((8 : Nat) : Int) < 8) = false := decide_eq_false (by omega)
      obtain ⟨Z, z, rfl, -, -, hr⟩ := Row.of_own hown
      have hgf := hga.trans hg
      clear hown
      go_wp2
      go_ret
      exact ⟨Z, z, rfl, hr.mono fun b _ hb => Nat.le_trans hga.size hb, hgf⟩
end Go.Proofs.Ck
