/- Logs: read by the document. -/
import Derived.Test.YtpakfelekphbmaaIntent5
namespace Go.Proofs.Ck
open Go Go.RowKit

theorem rgetX {rv : Value} {f : Nat → Nat} {w : World} {X : Nat → Prop} (h : RefF rv f w X) {C what a y : Nat} {x : Int} (hx : x = (what : Int)) (hc : C < 8) (h8 : what % 8 = 0) (hw : what < 416) (ha : 64 + 416 * C + what = a) (hy : f a = y) :
    Calls Try.prog 121 #[rv, .int .i64 (C : Int), .int .u64 x] w fun e w' => e = .returned (.int .u64 (y : Int)) ∧ Grow w w' := by
  subst hx
  have := rget_any h (C : Int) what h8 hw
  rwa [get_of hc ha hy] at this
theorem rread_nil {rv : Value} {f : Nat → Nat} {w : World} {X : Nat → Prop} (h : RefF rv f w X) (c : Int) (n : Nat) (hn : getF f c 16 = n) (hb : n = 0 ∨ 24 < n) :
    Calls Try.prog 94 #[rv, .int .i64 c] w fun e w' => e = .returned (.slice none 0 0) ∧ Grow w w' := by
  obtain ⟨A, n1, c', B, n2, d, rfl⟩ := h.agg
  have hga : Grow w (w.alloc (.cells #[.slice A n1 c', .slice B n2 d] 67)) := (Below.refl _ _).alloc (Nat.le_refl _) _
  have hg := rget_any (h.grow hga) c 16 rfl (by omega)
  rw [hn] at hg
  clear h hn
  rcases hb with rfl | hb
  · go_enter Try.func94, Try.ntmps94
    go_wp2_with fail
    refine (show Calls _ _ #[_, _, .int .u64 16] _ _ from hg).mono ?_
    rintro e w1 ⟨rfl, hg1⟩
    have hg2 := hga.trans hg1
    clear hg hg1 hga
    go_wp2
    go_loop [6, 7] (fun s i => s = .slice none 0 0 ∧ i = .int .u64 0) (fun _ _ => 0)
    case atStart => exact ⟨rfl, rfl⟩
    case round =>
      obtain ⟨rfl, rfl⟩ := hrel
      go_wp2
      go_ret
      exact ⟨rfl, hg2⟩
  · have t1 : decide ((24 : Int) < n) = true := decide_eq_true (by omega)
    go_enter Try.func94, Try.ntmps94
    go_wp2_with fail
    refine (show Calls _ _ #[_, _, .int .u64 16] _ _ from hg).mono ?_
    rintro e w1 ⟨rfl, hg1⟩
    have hg2 := hga.trans hg1
    clear hg hg1 hga
    go_wp2
    go_ret
    exact ⟨rfl, hg2⟩

set_option maxRecDepth 100000 in
set_option maxHeartbeats 3200000 in
theorem rread_ok {rv : Value} {f : Nat → Nat} {w : World} {X : Nat → Prop} (h : RefF rv f w X) (C : Nat) (hc : C < 8) (n : Nat) (hn : f (64 + 416 * C + 16) = n) (hb : n ≤ 24) :
    Calls Try.prog 94 #[rv, .int .i64 (C : Int)] w fun e w' => ∃ A m, e = .returned (.slice A n m) ∧ Row (fun b => w.heap.size ≤ b) w' A n 2 (puts (readN f C n)) ∧ Grow w w' := by
  obtain ⟨A, n1, c', B, n2, d, rfl⟩ := h.agg
  obtain ⟨i73, hi3, hz3, hs3, hb3⟩ := info_parts info73
  have hga : Grow w (w.alloc (.cells #[.slice A n1 c', .slice B n2 d] 67)) := (Below.refl _ _).alloc (Nat.le_refl _) _
  have hB := World.alloc_heap_new w (.cells #[.slice A n1 c', .slice B n2 d] 67)
  have hg := rgetX (h.grow hga) (what := 16) rfl hc rfl (by omega) rfl hn
  have t1 : decide ((24 : Int) < n) = false := decide_eq_false (by omega)
  clear hn
  go_enter Try.func94, Try.ntmps94
  go_wp2_with fail
  generalize w.alloc (.cells #[.slice A n1 c', .slice B n2 d] 67) = w1 at *
  refine (show Calls _ _ #[_, _, .int .u64 16] _ _ from hg).mono ?_
  rintro e w2 ⟨rfl, hg1⟩
  have hB2 := hg1.heap hB
  have hg2 := hga.trans hg1
  clear hg hg1 hga hB
  go_wp2_with fail
  go_loopw [6, 7] (fun s i wr => ∃ k : Nat, k ≤ n ∧ i = .int .u64 (k : Int) ∧ Grow w2 wr ∧ wr.ownsRow w2.heap.size 73 2 s k (puts (readN f C k))) (fun _ i _ => n - (intOf i).toNat)
  case atStart => exact ⟨0, Nat.zero_le _, rfl, Below.refl _ _, World.ownsRow_nil _ _ _ _⟩
  case round =>
    obtain ⟨k, hk, rfl, hg, hown⟩ := hrel
    by_cases hlt : k < n
    · have HS := Lib.hid (readN_succ f C k)
      have hw1 := fun w3 (hg3 : Grow w2 w3) => rgetX (X := X) (h.grow (hg2.trans hg3)) (C := C) (what := 32 + 16 * k) (x := 32 + 16 * (k : Int)) (by omega) hc (by omega) (by omega) rfl rfl
      have hw2 := fun w3 (hg3 : Grow w2 w3) => rgetX (X := X) (h.grow (hg2.trans hg3)) (C := C) (what := 40 + 16 * k) (x := 40 + 16 * (k : Int)) (by omega) hc (by omega) (by omega) rfl rfl
      generalize f (64 + 416 * C + (32 + 16 * k)) = x at *
      generalize f (64 + 416 * C + (40 + 16 * k)) = y at *
      generalize readN f C k = L at *
      have hBr := hg.heap hB2
      have b0 : wr.cell? ⟨w.heap.size, 0, none⟩ = some (.slice A n1 c') := by rw [cell_of_heap hBr]; rfl
      have b1 : wr.cell? ⟨w.heap.size, 1, none⟩ = some (.slice B n2 d) := by rw [cell_of_heap hBr]; rfl
      have g0 : decide ((k : Int) < n) = true := decide_eq_true (by omega)
      have hbase := hg.size
      have e3 : IntKind.u64.wrap (16 * (k : Int)) = 16 * (k : Int) := by rw [IntKind.wrap_u64]; omega
      have e4 : IntKind.u64.wrap (32 + 16 * (k : Int)) = 32 + 16 * (k : Int) := by rw [IntKind.wrap_u64]; omega
      have e5 : IntKind.u64.wrap (40 + 16 * (k : Int)) = 40 + 16 * (k : Int) := by rw [IntKind.wrap_u64]; omega
      have hgg := hg
      have hwB := lt_of_heap hB2
      go_wp2_with fail
      go_region_held3 (fun w' => w'.cell? ⟨w.heap.size, 0, none⟩ = some (.slice A n1 c') ∧ w'.cell? ⟨w.heap.size, 1, none⟩ = some (.slice B n2 d) ∧ Grow w2 w')
        (first
          | exact ⟨b0, b1, hg.drew⟩
          | exact ⟨(cell_of_heap (hgf.heap hB2) 0).trans rfl, (cell_of_heap (hgf.heap hB2) 1).trans rfl, hgf⟩
          | exact ⟨(cell_of_heap ((hgf.trans ((Below.refl _ _).alloc (Nat.le_refl _) _)).heap hB2) 0).trans rfl, (cell_of_heap ((hgf.trans ((Below.refl _ _).alloc (Nat.le_refl _) _)).heap hB2) 1).trans rfl, hgf.trans ((Below.refl _ _).alloc (Nat.le_refl _) _)⟩
          | exact ⟨(cell_of_heap (hgz.heap hB2) 0).trans rfl, (cell_of_heap (hgz.heap hB2) 1).trans rfl, hgz⟩)
        (first
          | (go_at_call 121; go_split_ands; first | (with_reducible refine Calls.mono (hw1 _ (by assumption)) ?_) | (with_reducible refine Calls.mono (hw2 _ (by assumption)) ?_)
             rintro e wn ⟨rfl, hgn⟩
             first | (have hown := own_grow hown hgn; have hgf := hgf.trans hgn) | (have hown := own_grow hown ((grow_drew _).trans hgn); have hgf := hg.trans ((grow_drew _).trans hgn)))
          | (refine step_append_lies _ (by rfl) _ _ _ (by rfl) w2.heap.size 73 i73 _ 2 16 Try.underlying64 hi3 hz3 hs3 hb3 rfl (by omega) u6 k _ (by rfl) (own_grow hown ((Below.refl _ _).alloc (by simp) _))
              ⟨wn.heap.size, 0, none⟩ 1 1 [.int .u64 (x : Int), .int .u64 (y : Int)] (by rfl) (by rfl) (World.news_of_block (cs := #[.int .u64 (x : Int), .int .u64 (y : Int)]) (t := 73) (fr := (0, 0)) (World.alloc_heap_new _ _)) (by simp [Value.oneCell'])
              (by omega) (by unfold maxLen; omega) (by omega) (by have := hgf.size; simp; omega) (wn.heap.size + 1) (by simp) ?_
             intro gg cap w5 hown5 hgrow hat hlt1
             have hgz : Grow w2 w5 := grow_of_grown (hgf.trans ((Below.refl _ _).alloc (Nat.le_refl _) _)) hgrow (own_ge hown)))
      clear b0 b1 hw1 hw2 e3 e4 e5 hgrow
      go_wp2
      go_roundw
      case rel =>
        refine ⟨k + 1, by omega, by go_num, hgz, ?_⟩
        rw [HS.out, puts_append]
        exact hown5
      case measure => simp [intOf]; omega
    · obtain rfl : k = n := by omega
      have g0 : decide ((k : Int) < k) = false := decide_eq_false (by omega)
      obtain ⟨Z, m, rfl, -, -, hr⟩ := Row.of_own hown
      have hgf := hg2.trans hg
      clear hown
      go_wp2
      go_ret
      exact ⟨Z, m, rfl, hr.mono fun b _ hb => Nat.le_trans hg2.size hb, hgf⟩
end Go.Proofs.Ck
