/- SegCopies: the walk. -/
import Derived.Test.YtpakfelekphbmaaSegDiff
import Derived.Test.YtpakfelekphbmaaSegAll
namespace Go.Proofs.Ck
open Go Go.RowKit

theorem Only.growOf {S : Nat → Prop} {a b c : World} (h : Grow a b) (k : Only S b c) (hS : ∀ x, S x → a.heap.size ≤ x) : Grow a c :=
  Below.trans h (k.below h.size hS)

set_option maxRecDepth 100000 in
set_option maxHeartbeats 2000000 in
theorem segCopies {w : World} {A : Option Addr} {c : Nat} {l : List (Nat × Nat)} (size p q : Nat) (hsz : size < 18446744073709551616) (hp : p < 18446744073709551616) (hq : q < 18446744073709551616)
    (hl : Puts (fun b => b < w.heap.size) w A l) (hm : l.length ≤ 9223372036854775807) (hx : ∀ p ∈ l, p.1 < 18446744073709551616 ∧ p.2 < 18446744073709551616) :
    Calls Try.prog 9 #[.int .u64 (size : Int), .slice A l.length c, .agg #[.int .u64 (p : Int), .int .u64 (q : Int)]] w fun e w' => e = .returned (.bool true) ∧ Grow w w' := by
  have hg0 : Grow w (w.alloc (.cells #[.int .u64 (p : Int), .int .u64 (q : Int)] 50)) := (Below.refl _ _).alloc (Nat.le_refl _) _
  have hB : (w.alloc (.cells #[.int .u64 (p : Int), .int .u64 (q : Int)] 50)).heap[w.heap.size]? = some (.cells #[.int .u64 (p : Int), .int .u64 (q : Int)] 50 (0, 0)) := (MapKept.heap_alloc w _).1
  have hlt : w.heap.size < (w.alloc (.cells #[.int .u64 (p : Int), .int .u64 (q : Int)] 50)).heap.size := by simp
  go_enter Try.func9, Try.ntmps9
  go_wp2_with fail
  generalize w.alloc (.cells #[.int .u64 (p : Int), .int .u64 (q : Int)] 50) = wb at hg0 hB hlt ⊢
  refine (awake2 wb).mono ?_
  rintro e w1 ⟨rfl, hg1⟩
  have hB1 := hg1.heap hB
  have hlt1 := Nat.lt_of_lt_of_le hlt hg1.size
  have hg01 := hg0.trans hg1
  clear hB hg1 hg0 hlt
  by_cases h8 : size ≤ 800
  · have t0 : decide (800 < (size : Int)) = false := decide_eq_false (by omega)
    by_cases hmay : may size
    · obtain ⟨m0, m8, mx⟩ := hmay
      go_wp2_with fail
      refine (may_ok size w1 m0 m8 mx).mono ?_
      rintro e w' ⟨rfl, rfl⟩
      go_wp2_with fail
      have hl1 : Puts (fun b => b < w1.heap.size) w1 A l := (hl.grow hg01).mono fun b _ hb => Nat.lt_of_lt_of_le hb hg01.size
      refine (filled (c := c) size hsz hl1 hm hx).mono ?_
      rintro e w2 ⟨s, y, A2, c2, ⟨rfl, hsg, hrow, -⟩, hg2⟩
      have hlen : (fillW size (l.take 40)).length = size / 8 := by rw [fillW_length, fresh_may ⟨m0, m8, mx⟩]
      have hL := fill_small h8 (l.take 40)
      rw [fresh_may ⟨m0, m8, mx⟩] at hrow ⊢
      generalize fillW size (l.take 40) = W at hsg hrow hlen hL
      have hws := hsg.like.words
      have e8 : 8 * W.length = size := by omega
      rcases hsg with ⟨rfl, rfl, _⟩ | ⟨sb, bb, cap, cs, rfl, rfl, hseg⟩
      · simp at hlen; omega
      clear hl1 hl hx
      have HL := Lib.hid hlen
      clear hlen
      have hB2 := hg2.heap hB1
      have hlt2 := Nat.lt_of_lt_of_le hlt1 hg2.size
      have hg02 := hg01.trans hg2
      clear hB1 hlt1 hg01 hg2
      go_wp2_with fail
      refine (copy_ok hseg (by omega)).mono ?_
      rintro e w3 ⟨⟨sb', bb', cap', cs', rfl, hseg', hsb', hbb'⟩, hg3⟩
      have hB3 := hg3.heap hB2
      have hlt3 := Nat.lt_of_lt_of_le hlt2 hg3.size
      have hg03 := hg02.trans hg3
      have hseg3 := hseg.grow hg3
      have hrow3 : Row (fun b => b < w2.heap.size) w3 A2 (size / 8) 1 (u64s W) := (hrow.mono (fun b hb _ => hb)).grow hg3
      have hbl := hseg.lt'
      have hsl := hseg.lt
      clear hB2 hg3 hseg hrow hg02
      go_wp2_with fail
      refine (sdiff (.inr ⟨_, _, _, _, rfl, hseg3⟩) (.inr ⟨_, _, _, _, rfl, hseg'⟩)).mono ?_
      rintro e w4 ⟨⟨D, d, rfl, -⟩, hg4⟩
      rw [diffs_self]
      have hB4 := hg4.heap hB3
      have hlt4 := Nat.lt_of_lt_of_le hlt3 hg4.size
      have hg04 := hg03.trans hg4
      have hseg4 := hseg3.grow hg4
      have hseg4' := hseg'.grow hg4
      have hrow4 := hrow3.grow hg4
      clear hB3 hg4 hseg3 hseg' hrow3 hg03 hlt3
      go_wp2_with fail
      refine (size_any (.inr ⟨_, _, _, _, rfl, hseg4'⟩)).mono ?_
      rintro e w' ⟨rfl, rfl⟩
      rw [e8]
      have b0 : w4.cell? ⟨w.heap.size, 0, none⟩ = some (.int .u64 (p : Int)) := by rw [cell_of_heap hB4]; rfl
      have b1 : w4.cell? ⟨w.heap.size, 1, none⟩ = some (.int .u64 (q : Int)) := by rw [cell_of_heap hB4]; rfl
      go_wp2_with fail
      refine (store_any (.inr ⟨_, _, _, _, rfl, rfl, hseg4'⟩) p q hp hq).mono ?_
      rintro e w5 ⟨rfl, -, ho5⟩
      have hbbw : w.heap.size ≤ bb' := by omega
      have hg05 : Grow w w5 := Only.growOf hg04 ho5 (fun x hx => by cases hx; exact hbbw)
      have hne : ∀ b, b = sb ∨ b = bb → ¬ (some bb' : Option Nat) = some b := fun b hb e => by cases e; omega
      have hseg5 : SegRep w5 sb bb cap cs W := hseg4.moved (ho5.block _ hseg4.lt (hne _ (.inl rfl))) (ho5.block _ hseg4.lt' (hne _ (.inr rfl)))
      have hrow5 := hrow4.only ho5 (fun b hb hS => by cases hb; omega)
      clear hB4 hlt4 hg04 hseg4 hseg4' hrow4 ho5 b0 b1 hne
      go_wp2_with fail
      refine (bytes_ok hseg5 0 size (by omega) (by omega)).mono ?_
      rintro e w6 ⟨⟨g, rfl, hby⟩, hg6⟩
      have hrow6 := hrow5.grow hg6
      have hg06 := hg05.trans hg6
      clear hseg5 hrow5 hg05 hg6
      have hr6 : Nums (fun b => b < w2.heap.size) w6 A2 W := by rw [← HL.out] at hrow6; exact hrow6
      have hrb := rbytes_ok (c := c2) hr6 0 size (by omega) hws (by omega) (by omega) (by omega)
      rw [HL.out] at hrb
      clear hrow6 hr6
      go_wp2_with fail
      refine hrb.mono ?_
      rintro e w7 ⟨⟨A7, c7, rfl, hB7⟩, hg7⟩
      have hstr := run_string (c := size) (n := size) (hby.grow hg7) (by rw [bytesOf_length])
      have hstr2 := run_string (c := c7) (n := size) hB7 (by rw [bytesOf_length])
      have hg : Grow w w7 := hg06.trans hg7
      clear hrb hby hB7 hg06 hg7 hws HL hL e8 m0 m8 mx
      generalize strOf (bytesOf W 0 size) = str at hstr hstr2
      go_wp2
      go_ret
      exact ⟨rfl, hg⟩
    · go_wp2_with fail
      refine (may_bad size w1 hsz hmay).mono ?_
      rintro e w' ⟨rfl, rfl⟩
      go_wp2
      go_ret
      exact ⟨rfl, hg01⟩
  · have t0 : decide (800 < (size : Int)) = true := decide_eq_true (by omega)
    go_wp2
    go_ret
    exact ⟨rfl, hg01⟩
end Go.Proofs.Ck
