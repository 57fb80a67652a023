/- Logs: the document's words that lay one. -/
import Derived.Test.YtpakfelekphbmaaIntent2
import Derived.Deep.AppendLies
namespace Go.Proofs.Ck
open Go Go.RowKit

theorem block_of_cell {w : World} {b o : Nat} {v : Value} (h : w.cell? ⟨b, o, none⟩ = some v) : b < w.heap.size := by
  obtain ⟨ob, ho, -⟩ := cells_of_cell h
  exact lt_of_heap ho
theorem grow_of_grown {w a b : World} {row : Option Nat} (hg : Grow w a) (h : a.grownBy b row) (hr : ∀ g, row = some g → w.heap.size ≤ g) : Grow w b :=
  Below.trans hg ((only_of_grown h).below hg.size (fun k hk => hr k hk))

set_option maxRecDepth 100000 in
set_option maxHeartbeats 3200000 in
theorem rwords_ok {S : Nat → Prop} {w : World} {A : Option Addr} {n c : Nat} {l : List (Nat × Nat)} (hc : c < 8) (hl : Puts S w A l) (hn : l.length ≤ 24) :
    Calls Try.prog 87 #[.int .i64 (c : Int), .slice A l.length n] w fun e w' => ∃ B m, e = .returned (.tuple #[.slice B (2 * l.length) m, .int .i64 0]) ∧ Row (fun b => w.heap.size ≤ b) w' B (2 * l.length) 2 (puts (logN c l l.length)) ∧ Grow w w' := by
  have t0 : decide ((c : Int) < 0) = false := decide_eq_false (by omega)
  have t7 : decide ((7 : Int) < c) = false := decide_eq_false (by omega)
  have t1 : decide ((24 : Int) < l.length) = false := decide_eq_false (by omega)
  obtain ⟨i73, hi3, hz3, hs3, hb3⟩ := info_parts info73
  go_enter Try.func87, Try.ntmps87
  go_wp2_with fail
  go_loopw [6, 7] (fun s i wr => ∃ k : Nat, k ≤ l.length ∧ i = .int .i64 (k : Int) ∧ Grow w wr ∧ wr.ownsRow w.heap.size 73 2 s (2 * k) (puts (logN c l k))) (fun _ i _ => l.length - (intOf i).toNat)
  case atStart => exact ⟨0, Nat.zero_le _, rfl, Below.refl _ _, World.ownsRow_nil _ _ _ _⟩
  case round =>
    obtain ⟨k, hk, rfl, hg, hown⟩ := hrel
    by_cases hlt : k < l.length
    · obtain ⟨b, o, rfl, _, hcell⟩ := (hl.grow hg).pos (by omega) (by omega)
      have hbw : b < w.heap.size := by
        obtain ⟨b', o', e, _, hc'⟩ := hl.pos (by omega) (by omega)
        cases e
        exact block_of_cell (hc' _ _ (puts_get hlt).1)
      have hx := hcell _ _ (puts_get hlt).1
      have hy := hcell _ _ (puts_get hlt).2
      rw [← Nat.add_assoc] at hy
      have HS := Lib.hid (logN_succ c l k)
      clear hcell hl
      generalize logN c l k = L at *
      generalize l.getD k (0, 0) = q at *
      obtain ⟨x, y⟩ := q
      simp only at hx hy
      have g0 : decide ((k : Int) < l.length) = true := decide_eq_true (by omega)
      have e2 : IntKind.u64.wrap (k : Int) = (k : Int) := by rw [IntKind.wrap_u64]; omega
      obtain ⟨a, ha⟩ : ∃ a, 64 + 416 * c + (32 + 16 * k) = a := ⟨_, rfl⟩
      obtain ⟨a2, ha2⟩ : ∃ a, 64 + 416 * c + (40 + 16 * k) = a := ⟨_, rfl⟩
      have hab : a < 5000 := by omega
      have HA := Lib.hid ha
      have HA2 := Lib.hid ha2
      clear ha ha2
      have hbase := hg.size
      go_wp2_with fail
      have e3 : IntKind.u64.wrap (16 * (k : Int)) = 16 * (k : Int) := by rw [IntKind.wrap_u64]; omega
      have e4 : IntKind.u64.wrap (32 + 16 * (k : Int)) = 32 + 16 * (k : Int) := by rw [IntKind.wrap_u64]; omega
      have gi0 : (0 : Int) ≤ k := by omega
      have gi1 : (k : Int) < l.length := by omega
      have far : ∀ g, u6.ownBlock = some g → ¬ some b = u6.ownBlock := fun g hg' e => by have := own_ge hown g hg'; rw [hg'] at e; cases e; omega
      go_region_held3 (fun w' => w'.cell? ⟨b, o + k * 2, none⟩ = some (.int .u64 (x : Int)) ∧ w'.cell? ⟨b, o + k * 2 + 1, none⟩ = some (.int .u64 (y : Int)))
        (first
          | go_keep
          | (go_split_ands
             refine ⟨?_, ?_⟩
             · (rw [hgrow.cell_far _ (by simp; omega) (by intro e; have := own_ge hown b e.symm; omega)]; assumption)
             · (rw [hgrow.cell_far _ (by simp; omega) (by intro e; have := own_ge hown b e.symm; omega)]; assumption)))
        (first
          | (go_at_call 162; refine Calls.mono (ratX (what := 32 + 16 * k) _ (by omega) hc (by omega) (by omega) HA.out) ?_; rintro e w' ⟨rfl, rfl⟩)
          | (refine step_append_lies _ (by rfl) _ _ _ (by rfl) w.heap.size 73 i73 _ 2 16 Try.underlying64 hi3 hz3 hs3 hb3 rfl (by omega) u6 (2 * k) _ (by rfl) (own_grow hown (((Below.refl _ _).drew).alloc (by simp) _))
              ⟨wr.heap.size, 0, none⟩ 1 1 [.int .u64 (a : Int), .int .u64 (x : Int)] (by rfl) (by rfl) (World.news_of_block (cs := #[.int .u64 (a : Int), .int .u64 (x : Int)]) (t := 73) (fr := (0, 0)) (World.alloc_heap_new _ _)) (by simp [Value.oneCell'])
              (by omega) (by unfold maxLen; omega) (by omega) (by simp; omega) (wr.heap.size + 1) (by simp) ?_; intro gg cap w1 hown1 hgrow hat hlt1))
      have hg1 : Grow w w1 := grow_of_grown (hg.trans (((Below.refl _ _).alloc (Nat.le_refl _) _).drew)) hgrow (own_ge hown)
      obtain ⟨hx1, hy1⟩ : w1.cell? ⟨b, o + k * 2, none⟩ = some (.int .u64 (x : Int)) ∧ w1.cell? ⟨b, o + k * 2 + 1, none⟩ = some (.int .u64 (y : Int)) := by assumption
      have hbase1 := hg1.size
      have e5 : IntKind.u64.wrap (40 + 16 * (k : Int)) = 40 + 16 * (k : Int) := by rw [IntKind.wrap_u64]; omega
      clear hx hy hgrow hat hlt1 hown hg far hbase e4
      go_wp2_with fail
      go_region_held3 (fun w' => w'.cell? ⟨b, o + k * 2, none⟩ = some (.int .u64 (x : Int)) ∧ w'.cell? ⟨b, o + k * 2 + 1, none⟩ = some (.int .u64 (y : Int)))
        (first
          | go_keep
          | (go_split_ands
             refine ⟨?_, ?_⟩
             · (rw [hgrow2.cell_far _ (by simp; omega) (by intro e; have := own_ge hown1 b e.symm; omega)]; assumption)
             · (rw [hgrow2.cell_far _ (by simp; omega) (by intro e; have := own_ge hown1 b e.symm; omega)]; assumption)))
        (first
          | (go_at_call 162; refine Calls.mono (ratX (what := 40 + 16 * k) _ (by omega) hc (by omega) (by omega) HA2.out) ?_; rintro e w' ⟨rfl, rfl⟩)
          | (refine step_append_lies _ (by rfl) _ _ _ (by rfl) w.heap.size 73 i73 _ 2 16 Try.underlying64 hi3 hz3 hs3 hb3 rfl (by omega) _ (2 * k + 1) _ (by rfl) (own_grow hown1 (((Below.refl _ _).drew).alloc (by simp) _))
              ⟨w1.heap.size, 0, none⟩ 1 1 [.int .u64 (a2 : Int), .int .u64 (y : Int)] (by rfl) (by rfl) (World.news_of_block (cs := #[.int .u64 (a2 : Int), .int .u64 (y : Int)]) (t := 73) (fr := (0, 0)) (World.alloc_heap_new _ _)) (by simp [Value.oneCell'])
              (by omega) (by unfold maxLen; omega) (by omega) (by simp; omega) (w1.heap.size + 1) (by simp) ?_; intro gg2 cap2 w2 hown2 hgrow2 hat hlt1))
      have hg2 : Grow w w2 := grow_of_grown (hg1.trans (((Below.refl _ _).alloc (Nat.le_refl _) _).drew)) hgrow2 (own_ge hown1)
      clear hx1 hy1 hgrow2 hat hlt1 hown1 hg1 e2 e3 e5
      go_wp2
      go_roundw
      case rel =>
        refine ⟨k + 1, by omega, by go_num, hg2, ?_⟩
        rw [HS.out, puts_append]
        have e1 : puts (logP c k (x, y)) = [.int .u64 (a : Int), .int .u64 (x : Int), .int .u64 (a2 : Int), .int .u64 (y : Int)] := by
          unfold logP
          rw [HA.out, HA2.out]
          simp [puts]
        rw [e1]
        have := hown2
        rw [List.append_assoc] at this
        exact this
      case measure => simp [intOf]; omega
    · obtain rfl : k = l.length := by omega
      have g0 : decide ((l.length : Int) < l.length) = false := decide_eq_false (by omega)
      obtain ⟨B, m, rfl, -, -, hr⟩ := Row.of_own hown
      clear hl hown
      go_wp2
      go_ret2
      exact ⟨B, m, rfl, hr, hg⟩
theorem rwords_bad (w : World) (A : Option Addr) (n m : Nat) (c : Int) (h : ¬ (0 ≤ c ∧ c < 8) ∨ 24 < n) (hn : n ≤ 9223372036854775807) :
    Calls Try.prog 87 #[.int .i64 c, .slice A n m] w fun e w' => e = .returned (.tuple #[.slice none 0 0, .int .i64 (if 0 ≤ c ∧ c < 8 then 9 else 1)]) ∧ w = w' := by
  by_cases h0 : c < 0
  · rw [if_neg (by omega)]
    have t0 : decide (c < 0) = true := decide_eq_true h0
    clear h
    go_enter Try.func87, Try.ntmps87
    go_wp2
    go_ret2
    exact ⟨rfl, rfl⟩
  · have t0 : decide (c < 0) = false := decide_eq_false h0
    by_cases h7 : 7 < c
    · rw [if_neg (by omega)]
      have t7 : decide (7 < c) = true := decide_eq_true h7
      clear h
      go_enter Try.func87, Try.ntmps87
      go_wp2
      go_ret2
      exact ⟨rfl, rfl⟩
    · rw [if_pos (by omega)]
      have t7 : decide (7 < c) = false := decide_eq_false h7
      have t1 : decide ((24 : Int) < n) = true := decide_eq_true (by omega)
      clear h
      go_enter Try.func87, Try.ntmps87
      go_wp2
      go_ret2
      exact ⟨rfl, rfl⟩
end Go.Proofs.Ck
