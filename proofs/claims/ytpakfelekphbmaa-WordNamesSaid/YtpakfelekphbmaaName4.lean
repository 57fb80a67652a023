/- Words: two words as a name: the reference's. -/
import Derived.Test.YtpakfelekphbmaaName3
namespace Go.Proofs.Ck
open Go Go.RowKit

/-- A word when so many bytes have been taken. -/
def vleft (w0 w1 q i : Nat) : Nat := wd w0 w1 q / 256 ^ (min (i - 8 * q) 8)
theorem vleft_lt {w0 w1 : Nat} (h0 : w0 < 18446744073709551616) (h1 : w1 < 18446744073709551616) (q i : Nat) : vleft w0 w1 q i < 18446744073709551616 := by
  unfold vleft
  refine Nat.lt_of_le_of_lt (Nat.div_le_self _ _) ?_
  unfold wd
  split <;> assumption
theorem vleft_mod {w0 w1 i : Nat} (hi : i < 16) : vleft w0 w1 (i / 8) i % 256 = dg w0 w1 i := by
  rw [dg_wd w0 w1 i hi]
  unfold vleft byteOf
  rw [show min (i - 8 * (i / 8)) 8 = i % 8 by omega]
theorem vleft_div {w0 w1 i : Nat} : vleft w0 w1 (i / 8) i / 256 = vleft w0 w1 (i / 8) (i + 1) := by
  unfold vleft
  rw [show min (i - 8 * (i / 8)) 8 = i % 8 by omega, show min (i + 1 - 8 * (i / 8)) 8 = i % 8 + 1 by omega, Nat.div_div_eq_div_mul, Nat.pow_succ]
theorem vleft_other {w0 w1 i q : Nat} (hq : q ≠ i / 8) : vleft w0 w1 q i = vleft w0 w1 q (i + 1) := by
  unfold vleft
  rw [show min (i - 8 * q) 8 = min (i + 1 - 8 * q) 8 by omega]
/-- Both words when so many bytes have been taken. -/
def cleft (w0 w1 i : Nat) : Array Value := #[.int .u64 (vleft w0 w1 0 i : Int), .int .u64 (vleft w0 w1 1 i : Int)]
theorem cleft_step {w0 w1 i : Nat} (hi : i < 16) : (cleft w0 w1 i).setIfInBounds (i / 8) (.int .u64 ((vleft w0 w1 (i / 8) i / 256 : Nat) : Int)) = cleft w0 w1 (i + 1) := by
  rw [vleft_div]
  unfold cleft
  rcases (show i / 8 = 0 ∨ i / 8 = 1 by omega) with h | h
  · rw [h, ← vleft_other (i := i) (q := 1) (by omega)]; rfl
  · rw [h, ← vleft_other (i := i) (q := 0) (by omega)]; rfl
theorem cleft_get {w0 w1 i : Nat} (hi : i < 16) : (cleft w0 w1 i)[i / 8]? = some (.int .u64 (vleft w0 w1 (i / 8) i : Int)) := by
  unfold cleft
  rcases (show i / 8 = 0 ∨ i / 8 = 1 by omega) with h | h <;> rw [h] <;> rfl
theorem cleft_zero (w0 w1 : Nat) : cleft w0 w1 0 = #[.int .u64 (w0 : Int), .int .u64 (w1 : Int)] := by
  simp [cleft, vleft, wd]
/-- The bytes, so many. -/
def dl (w0 w1 n : Nat) : List Nat := (List.range n).map fun i => dg w0 w1 i
theorem dl_succ (w0 w1 n : Nat) : dl w0 w1 (n + 1) = dl w0 w1 n ++ [dg w0 w1 n] := by simp [dl, List.range_succ]
theorem dl_length (w0 w1 n : Nat) : (dl w0 w1 n).length = n := by simp [dl]
theorem dl_get {w0 w1 n j : Nat} (hj : j < n) : (u8s (dl w0 w1 n))[j]? = some (.int .u8 ((dg w0 w1 j : Nat) : Int)) := by simp [u8s, dl, hj]
theorem bl_get {w0 w1 n j : Nat} {u : Value} (h : (u8s (bl w0 w1 n))[j]? = some u) : j < n ∧ u = .int .u8 ((dg w0 w1 (j + 1) : Nat) : Int) := by
  have hj : j < n := by
    have := (List.getElem?_eq_some_iff.1 h).1
    simpa [u8s, bl] using this
  refine ⟨hj, ?_⟩
  simp [u8s, bl, hj] at h
  exact h.symm

theorem own_movedN {w w' : World} {base : Nat} {e : TypeId} {k n : Nat} {v : Value} {xs : List Value} (h : w.ownsRow base e k v n xs) (hm : ∀ b, v.ownBlock = some b → w'.heap[b]? = w.heap[b]?) : w'.ownsRow base e k v n xs := by
  refine ⟨h.1, ?_⟩
  rcases h.2 with h0 | ⟨g, cap, cur, rfl, hb, hg, hr⟩
  · exact .inl h0
  · exact .inr ⟨g, cap, cur, rfl, hb, (hm g rfl).trans hg, hr⟩

set_option maxRecDepth 100000 in
set_option maxHeartbeats 4000000 in
theorem rname_call (w : World) (w0 w1 : Nat) (h0 : w0 < 18446744073709551616) (h1 : w1 < 18446744073709551616) :
    Calls Try.prog 67 #[.agg #[.int .u64 (w0 : Int), .int .u64 (w1 : Int)]] w fun e w' => e = .returned (.tuple #[.string (nameOf w0 w1), .bool (decide (isName w0 w1))]) ∧ Grow w w' := by
  obtain ⟨i5, hi5, hz5, hs5, hb5⟩ := info_parts info5
  have hga : Grow w (w.alloc (.cells #[.int .u64 (w0 : Int), .int .u64 (w1 : Int)] 37)) := (Below.refl _ _).alloc (Nat.le_refl _) _
  have hB : (w.alloc (.cells #[.int .u64 (w0 : Int), .int .u64 (w1 : Int)] 37)).heap[w.heap.size]? = some (.cells (cleft w0 w1 0) 37 (0, 0)) := by
    rw [cleft_zero]; exact World.alloc_heap_new w _
  have hsz : (w.alloc (.cells #[.int .u64 (w0 : Int), .int .u64 (w1 : Int)] 37)).heap.size = w.heap.size + 1 := by simp
  have al : Try.prog.arrayLen 37 = 2 := by kernel_rfl
  go_enter Try.func67, Try.ntmps67
  go_wp2_with fail
  generalize w.alloc (.cells #[.int .u64 (w0 : Int), .int .u64 (w1 : Int)] 37) = wa at *
  go_loopw [4, 5] (fun s i wr => ∃ k : Nat, k ≤ 16 ∧ i = .int .i64 (k : Int) ∧ Grow w wr ∧ wr.heap[w.heap.size]? = some (.cells (cleft w0 w1 k) 37 (0, 0)) ∧ wr.ownsRow (w.heap.size + 1) 5 1 s k (u8s (dl w0 w1 k)))
    (fun _ i _ => 16 - (intOf i).toNat)
  case atStart => exact ⟨0, Nat.zero_le _, rfl, hga, hB, World.ownsRow_nil _ _ _ _⟩
  case round =>
    obtain ⟨k, hk, rfl, hg, hBk, hown⟩ := hrel
    clear hga hB hsz
    by_cases hlt : k < 16
    · have g0 : decide ((k : Int) < 16) = true := decide_eq_true (by omega)
      have hm := vleft_mod (w0 := w0) (w1 := w1) hlt
      have hst := cleft_step (w0 := w0) (w1 := w1) hlt
      have hgt := cleft_get (w0 := w0) (w1 := w1) hlt
      have hvl := vleft_lt h0 h1 (k / 8) k
      have hcell : wr.cell? ⟨w.heap.size, k / 8, none⟩ = some (.int .u64 (vleft w0 w1 (k / 8) k : Int)) := by rw [cell_of_heap hBk]; exact hgt
      have HD := Lib.hid (dl_succ w0 w1 k)
      have hyl := dg_lt w0 w1 k
      generalize dl w0 w1 k = L at *
      generalize dg w0 w1 k = y at *
      generalize vleft w0 w1 (k / 8) k = V at *
      generalize cleft w0 w1 k = cs at *
      have hv' : V / 256 < 18446744073709551616 := by omega
      have e1 : IntKind.u64.wrap ((V : Int) % 256) = (y : Int) := by rw [IntKind.wrap_u64]; omega
      have e2 : (V : Int) % 256 = (y : Int) := by omega
      have e3 : (V : Int).tmod 256 = (y : Int) := by rw [Int.tmod_eq_emod_of_nonneg (by omega)]; omega
      have e4 : IntKind.u8.wrap (y : Int) = (y : Int) := by rw [IntKind.wrap_u8]; omega
      have e5 : (V : Int) / 256 = ((V / 256 : Nat) : Int) := by omega
      have e6 : IntKind.u64.wrap ((V / 256 : Nat) : Int) = ((V / 256 : Nat) : Int) := by rw [IntKind.wrap_u64]; omega
      have q1 : IntKind.i64.wrap ((k : Int) / 8) = ((k / 8 : Nat) : Int) := by rw [IntKind.wrap_i64]; omega
      have q2 : (k : Int) / 8 = ((k / 8 : Nat) : Int) := by omega
      have hq : k / 8 < 2 := by omega
      generalize V / 256 = V' at *
      have HS := Lib.hid hst
      clear hst hm hgt
      generalize hqd : k / 8 = q at *
      clear hqd
      have q3 : IntKind.i64.wrap (q : Int) = (q : Int) := by rw [IntKind.wrap_i64]; omega
      have hix : (0:Int) ≤ (q : Int) ∧ (q : Int) < 2 := by omega
      have hbase : w.heap.size + 1 ≤ wr.heap.size := lt_of_heap hBk
      go_wp2_with (at_builtin; go_loud (refine wpList_pushN 1 wr rfl (.tmp 12) (.tmp 19) 30 rfl (w.heap.size + 1) 5 i5 (.int .u8 0) 1 1 Try.underlying30 hi5 hz5 hs5 hb5 rfl (by decide) u4 k _ rfl hown #[.int .u8 (y : Int)] rfl rfl (by simp [Value.oneCell']) rfl (by unfold maxLen; omega) (by omega) hbase ?_))
      intro v' w5 hown5 ho5
      have hlow : ∀ b, u4.ownBlock = some b → w.heap.size + 1 ≤ b := fun b hb => (World.ownsRow.lt hown b hb).1
      have hB5 := ho5.heap hBk (fun h => by have := hlow _ h; omega)
      have hg5 : Grow w w5 := Below.trans hg (ho5.below (n := w.heap.size) hg.size (fun b hb => by have := hlow b hb; omega))
      have hcell5 : w5.cell? ⟨w.heap.size, q, none⟩ = some (.int .u64 (V : Int)) := by rw [cell_of_heap hB5, ← cell_of_heap hBk]; exact hcell
      have hfr5 := frozen_of_heap hB5 q
      obtain ⟨A', c', rfl⟩ : ∃ A c, v' = .slice A (k + 1) c := by
        obtain ⟨g, c, _, e, _⟩ := own_form hown5 (by omega)
        exact ⟨_, c, e⟩
      clear hown ho5 hg hcell hlow hBk
      go_wp2
      go_roundw
      case rel =>
        refine ⟨k + 1, by omega, by go_num, hg5.setCell (Nat.le_refl _) _, ?_, ?_⟩
        · rw [← HS.out]; exact heap_setCell_row hB5 _
        · rw [HD.out, u8s_append]
          exact own_movedN hown5 (fun b hb => ((Only.refl (fun b => b = w.heap.size) w5).setCell (p := ⟨w.heap.size, q, none⟩) rfl _).block b (hown5.lt b hb).2 (by have := (hown5.lt b hb).1; omega))
      case measure => simp [intOf]; omega
    · obtain rfl : 16 = k := by omega
      obtain ⟨g4, c4, cur, rfl, hg4b, hH4, hle, -, hz4, hcur⟩ := own_form hown (by omega)
      have hcell : ∀ j, j < 16 → wr.cell? ⟨g4, j, none⟩ = some (.int .u8 ((dg w0 w1 j : Nat) : Int)) := fun j hj => by
        rw [cell_of_heap hH4]
        exact hcur j _ (dl_get hj)
      clear hcur hz4 hown hBk hH4
      have hc0 := hcell 0 (by omega)
      have hD := dg_lt w0 w1 0
      have g0 : decide (((16 : Nat) : Int) < 16) = false := decide_eq_false (by omega)
      have cv : IntKind.i64.wrap ((dg w0 w1 0 : Nat) : Int) = ((dg w0 w1 0 : Nat) : Int) := by rw [IntKind.wrap_i64]; omega
      by_cases hd1 : dg w0 w1 0 < 1
      · have t0 : decide (((dg w0 w1 0 : Nat) : Int) < 1) = true := decide_eq_true (by omega)
        have hn : ¬ isName w0 w1 := fun h => by have := h.1; omega
        clear hcell
        go_wp2
        go_ret2
        exact ⟨by rw [nameOf, if_neg hn, decide_eq_false hn]; rfl, hg⟩
      · have t0 : decide (((dg w0 w1 0 : Nat) : Int) < 1) = false := decide_eq_false (by omega)
        by_cases hd15 : 15 < dg w0 w1 0
        · have t1 : decide (15 < ((dg w0 w1 0 : Nat) : Int)) = true := decide_eq_true (by omega)
          have hn : ¬ isName w0 w1 := fun h => by have := h.2.1; omega
          clear hcell
          go_wp2
          go_ret2
          exact ⟨by rw [nameOf, if_neg hn, decide_eq_false hn]; rfl, hg⟩
        · have t1 : decide (15 < ((dg w0 w1 0 : Nat) : Int)) = false := decide_eq_false (by omega)
          generalize hDD : dg w0 w1 0 = D at *
          have HDD := Lib.hid hDD
          clear hDD
          have HC := Lib.hid hcell
          clear hcell
          have s1 : IntKind.i64.wrap ((D : Int) + 1) = (D : Int) + 1 := by rw [IntKind.wrap_i64]; omega
          go_wp2_with fail
          go_loopw [7] (fun i wk => ∃ k : Nat, D < k ∧ k ≤ 16 ∧ i = .int .i64 (k : Int) ∧ wk = wr ∧ ∀ j, D < j → j < k → dg w0 w1 j = 0)
            (fun i _ => 16 - (intOf i).toNat)
          case atStart => exact ⟨D + 1, by omega, by omega, by go_num, by trivial, fun j _ _ => by omega⟩
          case round =>
            obtain ⟨k, hk1, hk2, rfl, rfl, hall⟩ := hrel
            have HA := Lib.hid hall
            clear hall
            by_cases hk : k < 16
            · have g1 : decide ((k : Int) < 16) = true := decide_eq_true (by omega)
              have hck := HC.out k hk
              have hix : (0:Int) ≤ (k : Int) ∧ (k : Int) < 16 := by omega
              by_cases hz : dg w0 w1 k = 0
              · rw [hz] at hck
                have HZ := Lib.hid hz
                clear hz
                go_wp2
                go_roundw
                case rel =>
                  refine ⟨k + 1, by omega, by omega, by go_num, by trivial, fun j h1 h2 => ?_⟩
                  rcases (show j < k ∨ j = k by omega) with h | rfl
                  · exact HA.out j h1 h
                  · exact HZ.out
                case measure => simp [intOf]; omega
              · have hn : ¬ isName w0 w1 := fun h => hz (h.2.2 k (by rw [HDD.out]; exact hk1) hk)
                have t2 : (((dg w0 w1 k : Nat) : Int) == 0) = false := by rw [beq_eq_false_iff_ne]; omega
                go_wp2
                go_ret2
                exact ⟨by rw [nameOf, if_neg hn, decide_eq_false hn]; rfl, hg⟩
            · obtain rfl : 16 = k := by omega
              have hn : isName w0 w1 := ⟨by rw [HDD.out]; omega, by rw [HDD.out]; omega, fun j h1 h2 => HA.out j (by rw [← HDD.out]; exact h1) h2⟩
              have HN := Lib.hid hn
              clear hn
              have hconv := run_string (w := wr) (A := some ⟨g4, 1, none⟩) (c := c4 - 1) (n := D) (S := fun _ => True) (l := bl w0 w1 D) ⟨by rw [u8s_length]; simp, fun _ => ⟨_, _, rfl, trivial, fun j u hj => by
                obtain ⟨hj2, rfl⟩ := bl_get hj
                rw [Nat.add_comm 1 j]
                exact HC.out (j + 1) (by omega)⟩⟩ (bl_length w0 w1 D)
              have s2 : IntKind.i64.wrap (1 + (D : Int)) = 1 + (D : Int) := by rw [IntKind.wrap_i64]; omega
              have g2 : decide ((D : Int) < 16) = true := decide_eq_true (by omega)
              go_wp2
              go_ret2
              exact ⟨by rw [nameOf, if_pos HN.out, decide_eq_true HN.out, HDD.out]; rfl, hg⟩
end Go.Proofs.Ck
