/- SegStays: the walk. -/
import Derived.Test.YtpakfelekphbmaaSegCopies
namespace Go.Proofs.Ck
open Go Go.RowKit

theorem diffs_set (W : List Nat) (k v : Nat) : ∀ n, diffs W (W.set k v) n = [] ∨ diffs W (W.set k v) n = [8 * k]
  | 0 => .inl rfl
  | n + 1 => by
    have hlow : ∀ m, m ≤ k → diffs W (W.set k v) m = [] := by
      intro m
      induction m with
      | zero => intro _; rfl
      | succ m ih =>
        intro hm
        rw [diffs_miss (by rw [List.getElem?_set_ne (by omega)]), ih (by omega)]
    rcases Nat.lt_or_ge n k with h | h
    · exact .inl (hlow _ (by omega))
    · rcases Nat.eq_or_lt_of_le h with rfl | h
      · by_cases he : W[k]? = (W.set k v)[k]?
        · exact .inl (by rw [diffs_miss he, hlow _ (Nat.le_refl _)])
        · exact .inr (by rw [diffs_hit he, hlow _ (Nat.le_refl _)]; rfl)
      · rw [diffs_miss (by rw [List.getElem?_set_ne (by omega)])]
        exact diffs_set W k v n

set_option maxRecDepth 100000 in
set_option maxHeartbeats 2000000 in
theorem segStays {w : World} {A : Option Addr} {c : Nat} {l : List (Nat × Nat)} (size p q : Nat) (hsz : size < 18446744073709551616) (hp : p < 18446744073709551616) (hq : q < 18446744073709551616)
    (hl : Puts (fun b => b < w.heap.size) w A l) (hm : l.length ≤ 9223372036854775807) (hx : ∀ p ∈ l, p.1 < 18446744073709551616 ∧ p.2 < 18446744073709551616) :
    Calls Try.prog 8 #[.int .u64 (size : Int), .slice A l.length c, .agg #[.int .u64 (p : Int), .int .u64 (q : Int)]] w fun e w' => e = .returned (.bool true) ∧ Grow w w' := by
  have hg0 : Grow w (w.alloc (.cells #[.int .u64 (p : Int), .int .u64 (q : Int)] 50)) := (Below.refl _ _).alloc (Nat.le_refl _) _
  have hB : (w.alloc (.cells #[.int .u64 (p : Int), .int .u64 (q : Int)] 50)).heap[w.heap.size]? = some (.cells #[.int .u64 (p : Int), .int .u64 (q : Int)] 50 (0, 0)) := (MapKept.heap_alloc w _).1
  have hlt : w.heap.size < (w.alloc (.cells #[.int .u64 (p : Int), .int .u64 (q : Int)] 50)).heap.size := by simp
  go_enter Try.func8, Try.ntmps8
  go_wp2_with fail
  generalize w.alloc (.cells #[.int .u64 (p : Int), .int .u64 (q : Int)] 50) = wb at hg0 hB hlt ⊢
  refine (awake2 wb).mono ?_
  rintro e w1 ⟨rfl, hg1⟩
  have hB1 := hg1.heap hB
  have hlt1 := Nat.lt_of_lt_of_le hlt hg1.size
  have hg01 := hg0.trans hg1
  clear hB hg1 hg0 hlt
  by_cases h8 : size ≤ 800
  · have t0 : decide (800 < (size : Int)) = false := decide_eq_false (by omega)
    by_cases hmay : may size
    · obtain ⟨m0, m8, mx⟩ := hmay
      go_wp2_with fail
      refine (may_ok size w1 m0 m8 mx).mono ?_
      rintro e w' ⟨rfl, rfl⟩
      go_wp2_with fail
      have hl1 : Puts (fun b => b < w1.heap.size) w1 A l := (hl.grow hg01).mono fun b _ hb => Nat.lt_of_lt_of_le hb hg01.size
      refine (filled (c := c) size hsz hl1 hm hx).mono ?_
      rintro e w2 ⟨s, y, A2, c2, ⟨rfl, hsg, hrow, -⟩, hg2⟩
      have hlen : (fillW size (l.take 40)).length = size / 8 := by rw [fillW_length, fresh_may ⟨m0, m8, mx⟩]
      have hL := fill_small h8 (l.take 40)
      rw [fresh_may ⟨m0, m8, mx⟩] at hrow ⊢
      generalize fillW size (l.take 40) = W at hsg hrow hlen hL
      have hws := hsg.like.words
      have e8 : 8 * W.length = size := by omega
      rcases hsg with ⟨rfl, rfl, _⟩ | ⟨sb, bb, cap, cs, rfl, rfl, hseg⟩
      · simp at hlen; omega
      clear hl1 hl hx
      have HL := Lib.hid hlen
      clear hlen
      have hB2 := hg2.heap hB1
      have hlt2 := Nat.lt_of_lt_of_le hlt1 hg2.size
      have hg02 := hg01.trans hg2
      clear hB1 hlt1 hg01 hg2
      go_wp2_with fail
      refine (copy_ok hseg (by omega)).mono ?_
      rintro e w3 ⟨⟨sb', bb', cap', cs', rfl, hseg', hsb', hbb'⟩, hg3⟩
      have hB3 := hg3.heap hB2
      have hlt3 := Nat.lt_of_lt_of_le hlt2 hg3.size
      have hg03 := hg02.trans hg3
      have hseg3 := hseg.grow hg3
      have hbl := hseg.lt'
      have hsl := hseg.lt
      clear hB2 hg3 hseg hrow hg02
      have b0 : w3.cell? ⟨w.heap.size, 0, none⟩ = some (.int .u64 (p : Int)) := by rw [cell_of_heap hB3]; rfl
      have b1 : w3.cell? ⟨w.heap.size, 1, none⟩ = some (.int .u64 (q : Int)) := by rw [cell_of_heap hB3]; rfl
      have hbbw : w.heap.size ≤ bb' := by omega
      by_cases hc : p % 8 = 0 ∧ p / 8 < W.length
      · obtain ⟨hp8, hpl⟩ := hc
        go_wp2_with fail
        refine (store_ok hseg' p q hp8 hpl hq).mono ?_
        rintro e w4 ⟨rfl, ⟨cs4, hseg4'⟩, ho4⟩
        have hg04 : Grow w w4 := Only.growOf hg03 ho4 (fun x hx => by cases hx; exact hbbw)
        have hseg4 : SegRep w4 sb bb cap cs W := hseg3.moved (ho4.block _ hseg3.lt (by omega)) (ho4.block _ hseg3.lt' (by omega))
        have hB4 := ho4.heap hB3 (by omega)
        have b0' : w4.cell? ⟨w.heap.size, 0, none⟩ = some (.int .u64 (p : Int)) := by rw [cell_of_heap hB4]; rfl
        have b1' : w4.cell? ⟨w.heap.size, 1, none⟩ = some (.int .u64 (q : Int)) := by rw [cell_of_heap hB4]; rfl
        clear b0 b1 hB3 hg03 hseg3 hseg' ho4
        have hld := load_ok hseg4' p hp8 (by rw [List.length_set]; exact hpl)
        rw [show (W.set (p / 8) q).getD (p / 8) 0 = q from by simp [List.getD_eq_getElem?_getD, hpl]] at hld
        go_wp2_with fail
        refine hld.mono ?_
        rintro e w5 ⟨rfl, hg5⟩
        have hB5 := hg5.heap hB4
        have b0 : w5.cell? ⟨w.heap.size, 0, none⟩ = some (.int .u64 (p : Int)) := by rw [cell_of_heap hB5]; rfl
        have b1 : w5.cell? ⟨w.heap.size, 1, none⟩ = some (.int .u64 (q : Int)) := by rw [cell_of_heap hB5]; rfl
        have hg05 := hg04.trans hg5
        have hseg5 := hseg4.grow hg5
        have hseg5' := hseg4'.grow hg5
        clear b0' b1' hB4 hg04 hseg4 hseg4' hg5 hld
        have hd := sdiff (.inr ⟨_, _, _, _, rfl, hseg5⟩) (.inr ⟨_, _, _, _, rfl, hseg5'⟩)
        have e8' : 8 * (p / 8) = p := by omega
        rcases diffs_set W (p / 8) q (max W.length (W.set (p / 8) q).length) with hdd | hdd
        · rw [hdd] at hd
          go_wp2_with fail
          refine hd.mono ?_
          rintro e w6 ⟨⟨D, d, rfl, -⟩, hg6⟩
          have hB6 := hg6.heap hB5
          have b0' : w6.cell? ⟨w.heap.size, 0, none⟩ = some (.int .u64 (p : Int)) := by rw [cell_of_heap hB6]; rfl
          have b1' : w6.cell? ⟨w.heap.size, 1, none⟩ = some (.int .u64 (q : Int)) := by rw [cell_of_heap hB6]; rfl
          have hg := hg05.trans hg6
          clear hd hdd b0 b1 hB5 hg05 hg6 hseg5 hseg5' hB6 hws HL
          go_wp2
          go_quiet (fail)
          go_wp2
          go_ret
          exact ⟨rfl, hg.drewN nq⟩
        · rw [hdd, e8'] at hd
          go_wp2_with fail
          refine hd.mono ?_
          rintro e w6 ⟨⟨D, d, rfl, hD⟩, hg6⟩
          have hB6 := hg6.heap hB5
          have b0' : w6.cell? ⟨w.heap.size, 0, none⟩ = some (.int .u64 (p : Int)) := by rw [cell_of_heap hB6]; rfl
          have b1' : w6.cell? ⟨w.heap.size, 1, none⟩ = some (.int .u64 (q : Int)) := by rw [cell_of_heap hB6]; rfl
          have hg := hg05.trans hg6
          obtain ⟨db, dof, rfl, -, hdc⟩ := hD.pos (by simp) (by omega)
          have hd0 : w6.cell? ⟨db, dof, none⟩ = some (.int .u64 (p : Int)) := hdc 0 _ rfl
          clear hd hdd b0 b1 hB5 hg05 hg6 hseg5 hseg5' hB6 hD hdc hws HL
          go_wp2
          go_quiet (fail)
          go_wp2
          go_ret
          exact ⟨rfl, hg.drewN nq⟩
      · go_wp2_with fail
        refine (store_bad hseg' p q hp hc).mono ?_
        rintro e w4 ⟨rfl, hg4⟩
        have hg04 := hg03.trans hg4
        have hseg4 := hseg3.grow hg4
        have hseg4' := hseg'.grow hg4
        have hB4 := hg4.heap hB3
        have b0' : w4.cell? ⟨w.heap.size, 0, none⟩ = some (.int .u64 (p : Int)) := by rw [cell_of_heap hB4]; rfl
        clear b0 b1 hB3 hg03 hseg3 hseg' hg4
        go_wp2_with fail
        refine (load_bad hseg4' p hp hc).mono ?_
        rintro e w' ⟨rfl, rfl⟩
        go_wp2_with fail
        refine (sdiff (.inr ⟨_, _, _, _, rfl, hseg4⟩) (.inr ⟨_, _, _, _, rfl, hseg4'⟩)).mono ?_
        rintro e w5 ⟨⟨D, d, rfl, -⟩, hg5⟩
        have hg := hg04.trans hg5
        rw [diffs_self]
        clear hg04 hseg4 hseg4' hB4 b0' hg5 hws HL
        go_wp2
        go_ret
        exact ⟨rfl, hg⟩
    · go_wp2_with fail
      refine (may_bad size w1 hsz hmay).mono ?_
      rintro e w' ⟨rfl, rfl⟩
      go_wp2
      go_ret
      exact ⟨rfl, hg01⟩
  · have t0 : decide (800 < (size : Int)) = true := decide_eq_true (by omega)
    go_wp2
    go_ret
    exact ⟨rfl, hg01⟩
end Go.Proofs.Ck
