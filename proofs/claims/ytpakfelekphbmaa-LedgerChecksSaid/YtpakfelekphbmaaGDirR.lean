/- Parts of the proofs of this seat's laws. -/
import Derived.Test.YtpakfelekphbmaaGDirW
import Derived.Test.YtpakfelekphbmaaRefAll
import Derived.Test.YtpakfelekphbmaaRefDo
import Derived.Test.YtpakfelekphbmaaFineS

namespace Go.Proofs.Ck
open Go Go.RowKit

/-- A slot's number, -1 for none. -/
def ixS (a : Nat) : Int := if a = 0 then -1 else (((a - 3392) / 24 : Nat) : Int)
theorem ixS_zero : ixS 0 = -1 := rfl
theorem ixS_sl (j : Nat) : ixS (sl j) = ((j % 16 : Nat) : Int) := by
  unfold ixS
  rw [if_neg (sl_pos j)]
  unfold sl
  congr 1
  omega
theorem rat_call (w : World) (j : Nat) (hj : j < 16) : Calls Try.prog 178 #[.int .i64 (j : Int)] w fun e w' => e = .returned (.int .u64 (sl j : Int)) ∧ w = w' := by
  have e0 : IntKind.u64.wrap (j : Int) = (j : Int) := by rw [IntKind.wrap_u64]; omega
  have e5 : IntKind.u64.wrap (24 * (j : Int)) = 24 * (j : Int) := by rw [IntKind.wrap_u64]; omega
  have e6 : IntKind.u64.wrap (3392 + 24 * (j : Int)) = 3392 + 24 * (j : Int) := by rw [IntKind.wrap_u64]; omega
  have hs : (sl j : Int) = 3392 + 24 * (j : Int) := by unfold sl; omega
  rw [hs]
  clear hs
  go_enter Try.func178, Try.ntmps178
  go_wp2
  go_ret
  exact ⟨rfl, rfl⟩
theorem rat_mod (w : World) (i : Nat) : Calls Try.prog 178 #[.int .i64 ((i % 16 : Nat) : Int)] w fun e w' => e = .returned (.int .u64 (sl i : Int)) ∧ w = w' := by
  have := rat_call w (i % 16) (by omega)
  rwa [sl_mod] at this

/-- A way's first k slots. -/
def wayL (h k : Nat) : List Nat := (List.range k).map fun i => (h + i) % 16
theorem wayL_length (h k : Nat) : (wayL h k).length = k := by simp [wayL]
theorem wayL_succ (h k : Nat) : wayL h (k + 1) = wayL h k ++ [(h + k) % 16] := by simp [wayL, List.range_succ]
theorem wayL_get {h k i : Nat} (hi : i < k) : (i64s (wayL h k))[i]? = some (.int .i64 (((h + i) % 16 : Nat) : Int)) := by
  simp [i64s, wayL, hi]

set_option maxRecDepth 100000 in
set_option maxHeartbeats 1000000 in
theorem rway_call (w : World) (s : ByteArray) (hs : s.size ≤ 100) :
    Calls Try.prog 199 #[.string s] w fun e w' => ∃ A c, e = .returned (.slice A 16 c) ∧ Row (fun b => w.heap.size ≤ b) w' A 16 1 (i64s (wayL (hN s) 16)) ∧ Grow w w' := by
  obtain ⟨i3, hi3, hz3, hs3, hb3⟩ := info_parts info3
  have hh := rhash s hs w
  rw [show hsum s.data.toList = hN s from rfl] at hh
  have hhl : hN s < 18446744073709551616 := hsum_lt _
  generalize hN s = h at *
  obtain ⟨r, hr⟩ : ∃ r, h % 16 = r := ⟨_, rfl⟩
  have e1 : IntKind.u64.wrap ((h : Int) % 16) = (r : Int) := by rw [IntKind.wrap_u64]; omega
  have e2 : (h : Int) % 16 = (r : Int) := by omega
  have e3 : (h : Int).tmod 16 = (r : Int) := by rw [Int.tmod_eq_emod_of_nonneg (by omega)]; omega
  have e4 : IntKind.u64.wrap (r : Int) = (r : Int) := by rw [IntKind.wrap_u64]; omega
  have e5 : IntKind.i64.wrap (r : Int) = (r : Int) := by rw [IntKind.wrap_i64]; omega
  have hr16 : r < 16 := by omega
  have HR := Lib.hid hr
  clear hr
  go_enter Try.func199, Try.ntmps199
  go_wp2_with fail
  refine hh.mono ?_
  rintro e w1 ⟨rfl, rfl⟩
  clear hh
  go_wp2_with fail
  go_loopw [3, 5] (fun s' i wr => ∃ k : Nat, k ≤ 16 ∧ i = .int .i64 (k : Int) ∧ Grow w wr ∧ wr.ownsRow w.heap.size 3 1 s' k (i64s (wayL h k))) (fun _ i _ => 16 - (intOf i).toNat)
  case atStart => exact ⟨0, Nat.zero_le _, rfl, Below.refl _ _, World.ownsRow_nil _ _ _ _⟩
  case round =>
    obtain ⟨k, hk, rfl, hg, hown⟩ := hrel
    by_cases hlt : k < 16
    · have HS := Lib.hid (wayL_succ h k)
      have hbase := hg.size
      have g0 : decide ((k : Int) < 16) = true := decide_eq_true (by omega)
      obtain ⟨y, hy⟩ : ∃ y, r + k = y := ⟨_, rfl⟩
      obtain ⟨z, hz⟩ : ∃ z, (h + k) % 16 = z := ⟨_, rfl⟩
      have hyz : y % 16 = z := by have := HR.out; omega
      have e6 : IntKind.i64.wrap ((r : Int) + (k : Int)) = (y : Int) := by rw [IntKind.wrap_i64]; omega
      have e7 : (y : Int) % 16 = (z : Int) := by omega
      have e8 : (y : Int).tmod 16 = (z : Int) := by rw [Int.tmod_eq_emod_of_nonneg (by omega)]; omega
      have e9 : IntKind.i64.wrap (z : Int) = (z : Int) := by rw [IntKind.wrap_i64]; omega
      rw [hz] at HS
      clear hz hyz hy
      go_wp2_with (at_builtin; refine wpList_push wr rfl (.tmp 14) (.tmp 19) 112 rfl w.heap.size 3 i3 _ 1 8 Try.underlying112 hi3 hz3 hs3 hb3 rfl (by decide) u3 k _ rfl hown #[.int .i64 (z : Int)] rfl rfl (by simp [Value.oneCell']) rfl (by unfold maxLen; omega) (by omega) hbase ?_)
      intro v' w2 hown2 ho2
      have hg2 : Grow w w2 := grow_own hg hown ho2
      obtain ⟨A', c', rfl⟩ : ∃ A c, v' = .slice A (k + 1) c := by
        obtain ⟨g, c, _, e, _⟩ := own_form hown2 (by omega)
        exact ⟨_, c, e⟩
      clear hown ho2
      go_wp2
      go_roundw
      case rel =>
        refine ⟨k + 1, by omega, by go_num, hg2, ?_⟩
        rw [HS.out, i64s_snoc]
        exact hown2
      case measure => simp [intOf]; omega
    · obtain rfl : k = 16 := by omega
      have g0 : decide (((16 : Nat) : Int) < 16) = false := decide_eq_false (by omega)
      obtain ⟨Z, m, rfl, -, -, hr⟩ := Row.of_own hown
      clear hown
      go_wp2
      go_ret
      exact ⟨Z, m, rfl, hr, hg⟩
end Go.Proofs.Ck

namespace Go.Proofs.Ck
open Go Go.RowKit

set_option maxRecDepth 100000 in
set_option maxHeartbeats 2000000 in
theorem rplace_call {rv : Value} {f : Nat → Nat} {w : World} {X : Nat → Prop} (hr : RefF rv f w X) (s : ByteArray) (hs : s.size ≤ 100) :
    Calls Try.prog 179 #[rv, .string s] w fun e w' => e = .returned (.int .i64 (ixS (placeS f s))) ∧ Grow w w' := by
  obtain ⟨A, n, c', B, m, d, rfl⟩ := hr.agg
  have hga : Grow w (w.alloc (.cells #[.slice A n c', .slice B m d] 67)) := (Below.refl _ _).alloc (Nat.le_refl _) _
  have hB := World.alloc_heap_new w (.cells #[.slice A n c', .slice B m d] 67)
  have h1 := hr.grow hga
  have hw := fun w => rway_call w s hs
  have hpl : placeS f s = roomN f (hN s) 16 := rfl
  rw [hpl]
  clear hr hpl
  generalize hN s = h at *
  go_enter Try.func179, Try.ntmps179
  go_wp2_with fail
  generalize w.alloc (.cells #[.slice A n c', .slice B m d] 67) = w1 at *
  refine (hw w1).mono ?_
  rintro e w2 ⟨D, dc, rfl, hrow, hg2⟩
  have hB2 := hg2.heap hB
  have h2 := h1.grow hg2
  have hG2 := hga.trans hg2
  clear hw h1 hB hga hg2
  go_wp2_with fail
  go_loopw [6] (fun i wr => ∃ k : Nat, k ≤ 16 ∧ i = .int .i64 (k : Int) ∧ Grow w2 wr ∧ roomN f h k = 0) (fun i _ => 16 - (intOf i).toNat)
  case atStart => exact ⟨0, Nat.zero_le _, rfl, Below.refl _ _, rfl⟩
  case round =>
    obtain ⟨k, hk, rfl, hg, h0⟩ := hrel
    by_cases hlt : k < 16
    · have hBr := hg.heap hB2
      have b0 : wr.cell? ⟨w.heap.size, 0, none⟩ = some (.slice A n c') := by rw [cell_of_heap hBr]; rfl
      have b1 : wr.cell? ⟨w.heap.size, 1, none⟩ = some (.slice B m d) := by rw [cell_of_heap hBr]; rfl
      obtain ⟨db, off, hD, -, hcell⟩ := (hrow.grow hg).pos (by omega) (by omega)
      subst hD
      have x0 := hcell k _ (wayL_get hlt)
      have hrowk := fun w' (hg' : Grow w2 w') => (hrow.grow hg').pos (by omega) (by omega)
      have hld := fun w' (hg' : Grow w2 w') => (h2.grow hg').load (sl (h + k) + 16) (by unfold sl; omega)
      have hat := fun w => rat_mod w (h + k)
      have hal : sl (h + k) < 3776 := by unfold sl; omega
      have hxk : ∀ w', Grow w2 w' → w'.cell? ⟨db, off + k, none⟩ = some (.int .i64 (((h + k) % 16 : Nat) : Int)) := fun w' hg' => by
        obtain ⟨db', off', hD', -, hc⟩ := (hrow.grow hg').pos (by omega) (by omega)
        cases hD'
        exact hc k _ (wayL_get hlt)
      have hhit := roomN_hit (f := f) (h := h) (k := k) h0
      have hmiss := roomN_miss (f := f) (h := h) (k := k)
      have hmore := fun (hp : pay f h k < 2) => roomN_more (f := f) (h := h) (k := k + 1) (m := 16) (by rw [hhit hp]; exact sl_pos _) (by omega)
      have hix : ixS (sl (h + k)) = (((h + k) % 16 : Nat) : Int) := ixS_sl _
      have hP : pay f h k = f (sl (h + k) + 16) := rfl
      rw [← hP] at hld
      clear hcell hrowk hP
      generalize pay f h k = P at *
      generalize sl (h + k) = a at *
      generalize (h + k) % 16 = z at *
      have e16 : IntKind.u64.wrap ((a : Int) + 16) = ((a + 16 : Nat) : Int) := by rw [IntKind.wrap_u64]; omega
      obtain ⟨tb, t0⟩ : ∃ b, decide ((P : Int) < 2) = b := ⟨_, rfl⟩
      have g0 : decide ((k : Int) < 16) = true := decide_eq_true (by omega)
      have gi0 : (0 : Int) ≤ k := by omega
      have gi1 : (k : Int) < 16 := by omega
      have KK := Lib.hid (⟨hhit, hmiss, hmore, hix, h0, h2, hrow⟩ : _ ∧ _ ∧ _ ∧ _ ∧ _ ∧ _ ∧ _)
      clear hhit hmiss hmore hix h0 h2 hrow
      go_wp2
      go_region_held3 (fun w' => w'.cell? ⟨w.heap.size, 0, none⟩ = some (.slice A n c') ∧ w'.cell? ⟨w.heap.size, 1, none⟩ = some (.slice B m d) ∧ w'.cell? ⟨db, off + k, none⟩ = some (.int .i64 (z : Int)) ∧ Grow w2 w')
        (first | exact ⟨b0, b1, x0, hg.drew⟩ | assumption | exact ⟨(cell_of_heap (hgz.heap hB2) 0).trans rfl, (cell_of_heap (hgz.heap hB2) 1).trans rfl, hxk _ hgz, hgz⟩)
        (first
          | (go_at_call 178; go_split_ands; refine Calls.mono (hat _) ?_; rintro e wn ⟨rfl, rfl⟩)
          | (go_at_call 157; go_split_ands; refine Calls.mono (hld _ (by assumption)) ?_; rintro e wn ⟨rfl, hgn⟩; have hgz := Grow.trans (a := w2) (by assumption) hgn))
      have x0 : wn.cell? ⟨db, off + k, none⟩ = some (.int .i64 (z : Int)) := hxk _ hgz
      clear b0 b1 hBr hxk hld hat e16
      cases tb
      · have hP2 : ¬ P < 2 := by have := of_decide_eq_false t0; omega
        have HN := Lib.hid (KK.out.2.1 hP2)
        clear hP2 t0
        go_wp2
        go_roundw
        case rel => exact ⟨k + 1, by omega, by go_num, hgz, by rw [HN.out]; exact KK.out.2.2.2.2.1⟩
        case measure => simp [intOf]; omega
      · have hP2 : P < 2 := by have := of_decide_eq_true t0; omega
        have hres : roomN f h 16 = a := by rw [KK.out.2.2.1 hP2, KK.out.1 hP2]
        have HR := Lib.hid hres
        clear hres hP2 t0
        go_wp2
        go_ret
        exact ⟨by rw [HR.out, KK.out.2.2.2.1]; rfl, hG2.trans hgz⟩
    · obtain rfl : k = 16 := by omega
      have g0 : decide (((16 : Nat) : Int) < 16) = false := decide_eq_false (by omega)
      have HR := Lib.hid h0
      clear h0
      go_wp2
      go_ret
      exact ⟨by rw [HR.out]; rfl, hG2.trans hg⟩
end Go.Proofs.Ck

namespace Go.Proofs.Ck
open Go Go.RowKit

set_option maxRecDepth 100000 in
set_option maxHeartbeats 1000000 in
theorem rstands_bad {rv : Value} {f : Nat → Nat} {w : World} {X : Nat → Prop} (hr : RefF rv f w X) (s : ByteArray) (hs : s.size ≤ 100) (hok : okN s = false) :
    Calls Try.prog 177 #[rv, .string s] w fun e w' => e = .returned (.int .i64 (-1)) ∧ Grow w w' := by
  obtain ⟨A, n, c', B, m, d, rfl⟩ := hr.agg
  have hga : Grow w (w.alloc (.cells #[.slice A n c', .slice B m d] 67)) := (Below.refl _ _).alloc (Nat.le_refl _) _
  have hp := fun w => pack65 s w
  rw [hok] at hp
  have hw := fun w => rway_call w s hs
  generalize n0 s = p0 at *
  generalize n1 s = p1 at *
  clear hr hok
  go_enter Try.func177, Try.ntmps177
  go_wp2_with fail
  generalize w.alloc (.cells #[.slice A n c', .slice B m d] 67) = w1 at *
  refine (hp w1).mono ?_
  rintro e w2 ⟨rfl, hg2⟩
  have hg3 := hga.trans (hg2.trans ((Below.refl _ _).alloc (Nat.le_refl _) (.cells #[.int .u64 (p0 : Int), .int .u64 (p1 : Int)] 37)))
  clear hp hga hg2
  go_wp2_with fail
  refine (hw _).mono ?_
  rintro e w4 ⟨D, dc, rfl, -, hg4⟩
  have hg5 := hg3.trans hg4
  clear hw hg3 hg4
  go_wp2
  go_loopw [8] (fun i wr => i = .int .i64 0 ∧ wr = w4) (fun i _ => 0)
  case atStart => exact ⟨rfl, rfl⟩
  case round =>
    obtain ⟨rfl, rfl⟩ := hrel
    go_wp2
    go_ret
    exact ⟨rfl, hg5⟩

set_option maxRecDepth 100000 in
set_option maxHeartbeats 4000000 in
theorem rstands_ok {rv : Value} {f : Nat → Nat} {w : World} {X : Nat → Prop} (hr : RefF rv f w X) (s : ByteArray) (h p0 p1 : Nat)
    (hp : ∀ w, Calls Try.prog 65 #[.string s] w fun e w' => e = .returned (.tuple #[.agg #[.int .u64 (p0 : Int), .int .u64 (p1 : Int)], .bool true]) ∧ Grow w w')
    (hw : ∀ w, Calls Try.prog 199 #[.string s] w fun e w' => ∃ A c, e = .returned (.slice A 16 c) ∧ Row (fun b => w.heap.size ≤ b) w' A 16 1 (i64s (wayL h 16)) ∧ Grow w w') :
    Calls Try.prog 177 #[rv, .string s] w fun e w' => e = .returned (.int .i64 (ixS (standN f h p0 p1))) ∧ Grow w w' := by
  obtain ⟨A, n, c', B, m, d, rfl⟩ := hr.agg
  have hga : Grow w (w.alloc (.cells #[.slice A n c', .slice B m d] 67)) := (Below.refl _ _).alloc (Nat.le_refl _) _
  have hB := World.alloc_heap_new w (.cells #[.slice A n c', .slice B m d] 67)
  have h1 := hr.grow hga
  clear hr
  go_enter Try.func177, Try.ntmps177
  go_wp2_with fail
  generalize w.alloc (.cells #[.slice A n c', .slice B m d] 67) = w1 at *
  refine (hp w1).mono ?_
  rintro e w2 ⟨rfl, hg2⟩
  have hB2 := (Below.heap_alloc w2 (.cells #[.int .u64 (p0 : Int), .int .u64 (p1 : Int)] 37) _ (lt_of_heap (hg2.heap hB))).trans (hg2.heap hB)
  have hQ2 := World.alloc_heap_new w2 (.cells #[.int .u64 (p0 : Int), .int .u64 (p1 : Int)] 37)
  have hga2 : Grow w2 (w2.alloc (.cells #[.int .u64 (p0 : Int), .int .u64 (p1 : Int)] 37)) := (Below.refl _ _).alloc (Nat.le_refl _) _
  have h2 := (h1.grow hg2).grow hga2
  have hG2 := hga.trans (hg2.trans hga2)
  clear hp h1 hB hga hg2 hga2
  go_wp2_with fail
  generalize w2.heap.size = q at *
  generalize w2.alloc (.cells #[.int .u64 (p0 : Int), .int .u64 (p1 : Int)] 37) = w3 at *
  refine (hw w3).mono ?_
  rintro e w4 ⟨D, dc, rfl, hrow, hg4⟩
  have hB4 := hg4.heap hB2
  have hQ4 := hg4.heap hQ2
  have h4 := h2.grow hg4
  have hG4 := hG2.trans hg4
  clear hw h2 hB2 hQ2 hG2 hg4
  go_wp2_with fail
  go_loopw [8] (fun i wr => ∃ k : Nat, k ≤ 16 ∧ i = .int .i64 (k : Int) ∧ Grow w4 wr ∧ (∀ j, j < k → halt f h p0 p1 j = false)) (fun i _ => 16 - (intOf i).toNat)
  case atStart => exact ⟨0, Nat.zero_le _, rfl, Below.refl _ _, fun j hj => absurd hj (by omega)⟩
  case round =>
    obtain ⟨k, hk, rfl, hg, h0⟩ := hrel
    by_cases hlt : k < 16
    · have hBr := hg.heap hB4
      have b0 : wr.cell? ⟨w.heap.size, 0, none⟩ = some (.slice A n c') := by rw [cell_of_heap hBr]; rfl
      have b1 : wr.cell? ⟨w.heap.size, 1, none⟩ = some (.slice B m d) := by rw [cell_of_heap hBr]; rfl
      obtain ⟨db, off, hD, -, hcell⟩ := (hrow.grow hg).pos (by omega) (by omega)
      subst hD
      have x0 := hcell k _ (wayL_get hlt)
      have hld := fun w' (hg' : Grow w4 w') => (h4.grow hg').load (sl (h + k) + 16) (by unfold sl; omega)
      have hd0 := fun w' (hg' : Grow w4 w') => (h4.grow hg').load (sl (h + k)) (by unfold sl; omega)
      have hd8 := fun w' (hg' : Grow w4 w') => (h4.grow hg').load (sl (h + k) + 8) (by unfold sl; omega)
      have hat := fun w => rat_mod w (h + k)
      have hal : sl (h + k) < 3776 := by unfold sl; omega
      have hxk : ∀ w', Grow w4 w' → w'.cell? ⟨db, off + k, none⟩ = some (.int .i64 (((h + k) % 16 : Nat) : Int)) := fun w' hg' => by
        obtain ⟨db', off', hD', -, hc⟩ := (hrow.grow hg').pos (by omega) (by omega)
        cases hD'
        exact hc k _ (wayL_get hlt)
      have hHalt : halt f h p0 p1 k = (decide (pay f h k = 0) || (decide (1 < pay f h k) && (decide (f (sl (h + k)) = p0) && decide (f (sl (h + k) + 8) = p1)))) := rfl
      have hnext : halt f h p0 p1 k = false → ∀ j, j < k + 1 → halt f h p0 p1 j = false := fun hh j hj => by
        by_cases e : j = k
        · rw [e]; exact hh
        · exact h0 j (by omega)
      have hstop := fun (hh : halt f h p0 p1 k = true) => (turn_some hlt hh h0).1
      have hix : ixS (sl (h + k)) = (((h + k) % 16 : Nat) : Int) := ixS_sl _
      have hP : pay f h k = f (sl (h + k) + 16) := rfl
      rw [← hP] at hld
      clear hcell hP h0
      generalize pay f h k = P at *
      generalize f (sl (h + k) + 8) = y8 at *
      generalize f (sl (h + k)) = y0 at *
      generalize sl (h + k) = a at *
      generalize (h + k) % 16 = z at *
      have e16 : IntKind.u64.wrap ((a : Int) + 16) = ((a + 16 : Nat) : Int) := by rw [IntKind.wrap_u64]; omega
      have e8 : IntKind.u64.wrap ((a : Int) + 8) = ((a + 8 : Nat) : Int) := by rw [IntKind.wrap_u64]; omega
      have g0 : decide ((k : Int) < 16) = true := decide_eq_true (by omega)
      have gi0 : (0 : Int) ≤ k := by omega
      have gi1 : (k : Int) < 16 := by omega
      have KK := Lib.hid (⟨hHalt, hnext, hstop, hix⟩ : _ ∧ _ ∧ _ ∧ _)
      clear hHalt hnext hstop hix hrow
      go_wp2
      go_region_held3 (fun w' => w'.cell? ⟨w.heap.size, 0, none⟩ = some (.slice A n c') ∧ w'.cell? ⟨w.heap.size, 1, none⟩ = some (.slice B m d) ∧ w'.cell? ⟨db, off + k, none⟩ = some (.int .i64 (z : Int)) ∧ Grow w4 w')
        (first | exact ⟨b0, b1, x0, hg.drew⟩ | assumption | exact ⟨(cell_of_heap (hgz.heap hB4) 0).trans rfl, (cell_of_heap (hgz.heap hB4) 1).trans rfl, hxk _ hgz, hgz⟩)
        (first
          | (go_at_call 178; go_split_ands; refine Calls.mono (hat _) ?_; rintro e wn ⟨rfl, rfl⟩)
          | (go_at_call 157; go_split_ands; refine Calls.mono (hld _ (by assumption)) ?_; rintro e wn ⟨rfl, hgn⟩; have hgz := Grow.trans (a := w4) (by assumption) hgn))
      clear b0 b1 x0 hBr hld hgn hg
      have b0 : wn.cell? ⟨w.heap.size, 0, none⟩ = some (.slice A n c') := by rw [cell_of_heap (hgz.heap hB4)]; rfl
      have b1 : wn.cell? ⟨w.heap.size, 1, none⟩ = some (.slice B m d) := by rw [cell_of_heap (hgz.heap hB4)]; rfl
      have d0 : wn.cell? ⟨q, 0, none⟩ = some (.int .u64 (p0 : Int)) := by rw [cell_of_heap (hgz.heap hQ4)]; rfl
      have d1 : wn.cell? ⟨q, 1, none⟩ = some (.int .u64 (p1 : Int)) := by rw [cell_of_heap (hgz.heap hQ4)]; rfl
      have x0 : wn.cell? ⟨db, off + k, none⟩ = some (.int .i64 (z : Int)) := hxk _ hgz
      by_cases hP0 : P = 0
      · have t3 : ((P : Int) == 0) = true := by rw [beq_iff_eq]; omega
        have hst := KK.out.2.2.1 (by rw [KK.out.1, decide_eq_true hP0]; rfl)
        rw [if_pos hP0] at hst
        have HR := Lib.hid hst
        clear hst hP0 hd0 hd8 hat hxk
        go_wp2
        go_ret
        exact ⟨by rw [HR.out]; rfl, hG4.trans hgz⟩
      have t3 : ((P : Int) == 0) = false := by rw [beq_eq_false_iff_ne]; omega
      by_cases hP2 : P < 2
      · have t1 : decide ((1 : Int) < P) = false := decide_eq_false (by omega)
        have NX := Lib.hid (KK.out.2.1 (by rw [KK.out.1, decide_eq_false hP0, decide_eq_false (show ¬ 1 < P by omega)]; rfl))
        clear hP0 hP2
        go_wp2
        refine region_plain (fun w' => w'.cell? ⟨w.heap.size, 0, none⟩ = some (.slice A n c') ∧ w'.cell? ⟨w.heap.size, 1, none⟩ = some (.slice B m d) ∧ w'.cell? ⟨db, off + k, none⟩ = some (.int .i64 (z : Int)) ∧ w'.cell? ⟨q, 0, none⟩ = some (.int .u64 (p0 : Int)) ∧ w'.cell? ⟨q, 1, none⟩ = some (.int .u64 (p1 : Int)) ∧ Grow w4 w') (by kernel_rfl) ⟨b0, b1, x0, d0, d1, hgz.drew⟩ (fun hHeld => ?_)
        refine wpAnyH_take (i := 0) (v := ?_) rfl (by kernel_rfl) (by kernel_rfl) (by kernel_rfl) (fun _ _ _ h => h) (Or.inl ⟨by first | kernel_rfl | rfl, ?_⟩) (by assumption) ?_
        rotate_left
        · intro w hSw; (try dsimp only at hSw); (try go_split_ands); go_simp; first | done | with_reducible rfl
        try simp only [Act.put, List.getElem_toArray, List.getElem_cons_zero, List.setIfInBounds_toArray, List.set_cons_zero, List.set_cons_succ]
        refine wpAnyH_take (i := 1) (v := ?_) rfl (by kernel_rfl) (by kernel_rfl) (by kernel_rfl) (fun _ _ _ h => h) (Or.inl ⟨by first | kernel_rfl | rfl, ?_⟩) (by assumption) ?_
        rotate_left
        · intro w hSw; (try dsimp only at hSw); (try go_split_ands); go_simp; first | done | with_reducible rfl
        try simp only [Act.put, List.getElem_toArray, List.getElem_cons_succ, List.getElem_cons_zero, List.setIfInBounds_toArray, List.set_cons_zero, List.set_cons_succ]
        refine wpAnyH_take (i := 2) (v := ?_) rfl (by kernel_rfl) (by kernel_rfl) (by kernel_rfl) (fun _ _ _ h => h) (Or.inl ⟨by first | kernel_rfl | rfl, ?_⟩) (by assumption) ?_
        rotate_left
        · intro w hSw; (try dsimp only at hSw); (try go_split_ands); go_simp; first | done | with_reducible rfl
        try simp only [Act.put, List.getElem_toArray, List.getElem_cons_succ, List.getElem_cons_zero, List.setIfInBounds_toArray, List.set_cons_zero, List.set_cons_succ]
        refine wpAnyH_take (i := 3) (v := undef) rfl (by kernel_rfl) (by kernel_rfl) (by kernel_rfl) (fun _ _ _ h => h) (Or.inr ⟨by first | kernel_rfl | rfl, rfl⟩) (by assumption) ?_
        try simp only [Act.put, List.getElem_toArray, List.getElem_cons_succ, List.getElem_cons_zero, List.setIfInBounds_toArray, List.set_cons_zero, List.set_cons_succ]
        refine wpAnyH_take (i := 4) (v := undef) rfl (by kernel_rfl) (by kernel_rfl) (by kernel_rfl) (fun _ _ _ h => h) (Or.inr ⟨by first | kernel_rfl | rfl, rfl⟩) (by assumption) ?_
        try simp only [Act.put, List.getElem_toArray, List.getElem_cons_succ, List.getElem_cons_zero, List.setIfInBounds_toArray, List.set_cons_zero, List.set_cons_succ]
        refine wpAnyH_take (i := 5) (v := undef) rfl (by kernel_rfl) (by kernel_rfl) (by kernel_rfl) (fun _ _ _ h => h) (Or.inr ⟨by first | kernel_rfl | rfl, rfl⟩) (by assumption) ?_
        try simp only [Act.put, List.getElem_toArray, List.getElem_cons_succ, List.getElem_cons_zero, List.setIfInBounds_toArray, List.set_cons_zero, List.set_cons_succ]
        refine wpAnyH_take (i := 6) (v := undef) rfl (by kernel_rfl) (by kernel_rfl) (by kernel_rfl) (fun _ _ _ h => h) (Or.inr ⟨by first | kernel_rfl | rfl, rfl⟩) (by assumption) ?_
        try simp only [Act.put, List.getElem_toArray, List.getElem_cons_succ, List.getElem_cons_zero, List.setIfInBounds_toArray, List.set_cons_zero, List.set_cons_succ]
        refine wpAnyH_take (i := 7) (v := undef) rfl (by kernel_rfl) (by kernel_rfl) (by kernel_rfl) (fun _ _ _ h => h) (Or.inr ⟨by first | kernel_rfl | rfl, rfl⟩) (by assumption) ?_
        try simp only [Act.put, List.getElem_toArray, List.getElem_cons_succ, List.getElem_cons_zero, List.setIfInBounds_toArray, List.set_cons_zero, List.set_cons_succ]
        refine wpAnyH_take (i := 8) (v := undef) rfl (by kernel_rfl) (by kernel_rfl) (by kernel_rfl) (fun _ _ _ h => h) (Or.inr ⟨by first | kernel_rfl | rfl, rfl⟩) (by assumption) ?_
        try simp only [Act.put, List.getElem_toArray, List.getElem_cons_succ, List.getElem_cons_zero, List.setIfInBounds_toArray, List.set_cons_zero, List.set_cons_succ]
        refine wpAnyH_take (i := 9) (v := undef) rfl (by kernel_rfl) (by kernel_rfl) (by kernel_rfl) (fun _ _ _ h => h) (Or.inr ⟨by first | kernel_rfl | rfl, rfl⟩) (by assumption) ?_
        try simp only [Act.put, List.getElem_toArray, List.getElem_cons_succ, List.getElem_cons_zero, List.setIfInBounds_toArray, List.set_cons_zero, List.set_cons_succ]
        refine wpAnyH_take (i := 10) (v := undef) rfl (by kernel_rfl) (by kernel_rfl) (by kernel_rfl) (fun _ _ _ h => h) (Or.inr ⟨by first | kernel_rfl | rfl, rfl⟩) (by assumption) ?_
        try simp only [Act.put, List.getElem_toArray, List.getElem_cons_succ, List.getElem_cons_zero, List.setIfInBounds_toArray, List.set_cons_zero, List.set_cons_succ]
        refine wpAnyH_take (i := 11) (v := undef) rfl (by kernel_rfl) (by kernel_rfl) (by kernel_rfl) (fun _ _ _ h => h) (Or.inr ⟨by first | kernel_rfl | rfl, rfl⟩) (by assumption) ?_
        try simp only [Act.put, List.getElem_toArray, List.getElem_cons_succ, List.getElem_cons_zero, List.setIfInBounds_toArray, List.set_cons_zero, List.set_cons_succ]
        refine wpAnyH_take (i := 12) (v := undef) rfl (by kernel_rfl) (by kernel_rfl) (by kernel_rfl) (fun _ _ _ h => h) (Or.inr ⟨by first | kernel_rfl | rfl, rfl⟩) (by assumption) ?_
        try simp only [Act.put, List.getElem_toArray, List.getElem_cons_succ, List.getElem_cons_zero, List.setIfInBounds_toArray, List.set_cons_zero, List.set_cons_succ]
        refine wpAnyH_take (i := 13) (v := ?_) rfl (by kernel_rfl) (by kernel_rfl) (by kernel_rfl) (fun _ _ _ h => h) (Or.inl ⟨by first | kernel_rfl | rfl, ?_⟩) (by assumption) ?_
        rotate_left
        · intro w hSw; (try dsimp only at hSw); (try go_split_ands); go_simp; first | done | with_reducible rfl
        try simp only [Act.put, List.getElem_toArray, List.getElem_cons_succ, List.getElem_cons_zero, List.setIfInBounds_toArray, List.set_cons_zero, List.set_cons_succ]
        refine wpAnyH_take (i := 14) (v := ?_) rfl (by kernel_rfl) (by kernel_rfl) (by kernel_rfl) (fun _ _ _ h => h) (Or.inl ⟨by first | kernel_rfl | rfl, ?_⟩) (by assumption) ?_
        rotate_left
        · intro w hSw; (try dsimp only at hSw); (try go_split_ands); go_simp; first | done | with_reducible rfl
        try simp only [Act.put, List.getElem_toArray, List.getElem_cons_succ, List.getElem_cons_zero, List.setIfInBounds_toArray, List.set_cons_zero, List.set_cons_succ]
        refine wpAnyH_take (i := 15) (v := undef) rfl (by kernel_rfl) (by kernel_rfl) (by kernel_rfl) (fun _ _ _ h => h) (Or.inr ⟨by first | kernel_rfl | rfl, rfl⟩) (by assumption) ?_
        try simp only [Act.put, List.getElem_toArray, List.getElem_cons_succ, List.getElem_cons_zero, List.setIfInBounds_toArray, List.set_cons_zero, List.set_cons_succ]
        refine wpAnyH_take (i := 16) (v := undef) rfl (by kernel_rfl) (by kernel_rfl) (by kernel_rfl) (fun _ _ _ h => h) (Or.inr ⟨by first | kernel_rfl | rfl, rfl⟩) (by assumption) ?_
        try simp only [Act.put, List.getElem_toArray, List.getElem_cons_succ, List.getElem_cons_zero, List.setIfInBounds_toArray, List.set_cons_zero, List.set_cons_succ]
        refine wpAnyH_take (i := 17) (v := undef) rfl (by kernel_rfl) (by kernel_rfl) (by kernel_rfl) (fun _ _ _ h => h) (Or.inr ⟨by first | kernel_rfl | rfl, rfl⟩) (by assumption) ?_
        try simp only [Act.put, List.getElem_toArray, List.getElem_cons_succ, List.getElem_cons_zero, List.setIfInBounds_toArray, List.set_cons_zero, List.set_cons_succ]
        refine wpAnyH_take (i := 18) (v := undef) rfl (by kernel_rfl) (by kernel_rfl) (by kernel_rfl) (fun _ _ _ h => h) (Or.inr ⟨by first | kernel_rfl | rfl, rfl⟩) (by assumption) ?_
        try simp only [Act.put, List.getElem_toArray, List.getElem_cons_succ, List.getElem_cons_zero, List.setIfInBounds_toArray, List.set_cons_zero, List.set_cons_succ]
        refine wpAnyH_take (i := 19) (v := undef) rfl (by kernel_rfl) (by kernel_rfl) (by kernel_rfl) (fun _ _ _ h => h) (Or.inr ⟨by first | kernel_rfl | rfl, rfl⟩) (by assumption) ?_
        try simp only [Act.put, List.getElem_toArray, List.getElem_cons_succ, List.getElem_cons_zero, List.setIfInBounds_toArray, List.set_cons_zero, List.set_cons_succ]
        refine wpAnyH_take (i := 20) (v := undef) rfl (by kernel_rfl) (by kernel_rfl) (by kernel_rfl) (fun _ _ _ h => h) (Or.inr ⟨by first | kernel_rfl | rfl, rfl⟩) (by assumption) ?_
        try simp only [Act.put, List.getElem_toArray, List.getElem_cons_succ, List.getElem_cons_zero, List.setIfInBounds_toArray, List.set_cons_zero, List.set_cons_succ]
        refine wpAnyH_take (i := 21) (v := undef) rfl (by kernel_rfl) (by kernel_rfl) (by kernel_rfl) (fun _ _ _ h => h) (Or.inr ⟨by first | kernel_rfl | rfl, rfl⟩) (by assumption) ?_
        try simp only [Act.put, List.getElem_toArray, List.getElem_cons_succ, List.getElem_cons_zero, List.setIfInBounds_toArray, List.set_cons_zero, List.set_cons_succ]
        refine wpAnyH_take (i := 22) (v := undef) rfl (by kernel_rfl) (by kernel_rfl) (by kernel_rfl) (fun _ _ _ h => h) (Or.inr ⟨by first | kernel_rfl | rfl, rfl⟩) (by assumption) ?_
        try simp only [Act.put, List.getElem_toArray, List.getElem_cons_succ, List.getElem_cons_zero, List.setIfInBounds_toArray, List.set_cons_zero, List.set_cons_succ]
        refine wpAnyH_take (i := 23) (v := undef) rfl (by kernel_rfl) (by kernel_rfl) (by kernel_rfl) (fun _ _ _ h => h) (Or.inr ⟨by first | kernel_rfl | rfl, rfl⟩) (by assumption) ?_
        try simp only [Act.put, List.getElem_toArray, List.getElem_cons_succ, List.getElem_cons_zero, List.setIfInBounds_toArray, List.set_cons_zero, List.set_cons_succ]
        refine wpAnyH_take (i := 24) (v := undef) rfl (by kernel_rfl) (by kernel_rfl) (by kernel_rfl) (fun _ _ _ h => h) (Or.inr ⟨by first | kernel_rfl | rfl, rfl⟩) (by assumption) ?_
        try simp only [Act.put, List.getElem_toArray, List.getElem_cons_succ, List.getElem_cons_zero, List.setIfInBounds_toArray, List.set_cons_zero, List.set_cons_succ]
        refine wpAnyH_take (i := 25) (v := undef) rfl (by kernel_rfl) (by kernel_rfl) (by kernel_rfl) (fun _ _ _ h => h) (Or.inr ⟨by first | kernel_rfl | rfl, rfl⟩) (by assumption) ?_
        try simp only [Act.put, List.getElem_toArray, List.getElem_cons_succ, List.getElem_cons_zero, List.setIfInBounds_toArray, List.set_cons_zero, List.set_cons_succ]
        refine wpAnyH_take (i := 26) (v := ?_) rfl (by kernel_rfl) (by kernel_rfl) (by kernel_rfl) (fun _ _ _ h => h) (Or.inl ⟨by first | kernel_rfl | rfl, ?_⟩) (by assumption) ?_
        rotate_left
        · intro w hSw; (try dsimp only at hSw); (try go_split_ands); go_simp; first | done | with_reducible rfl
        try simp only [Act.put, List.getElem_toArray, List.getElem_cons_succ, List.getElem_cons_zero, List.setIfInBounds_toArray, List.set_cons_zero, List.set_cons_succ]
        refine wpAnyH_done (by kernel_rfl) ?_ _
        refine NoPanic.normal ?_
        go_wp2
        go_roundw
        case rel => exact ⟨k + 1, by omega, by go_num, hgz.drew, NX.out⟩
        case measure => simp [intOf]; omega
      have t1 : decide ((1 : Int) < P) = true := decide_eq_true (by omega)
      by_cases ha0 : y0 = p0
      · have t4 : ((y0 : Int) == p0) = true := by rw [beq_iff_eq]; omega
        by_cases ha8 : y8 = p1
        · have t5 : ((y8 : Int) == p1) = true := by rw [beq_iff_eq]; omega
          have hst := KK.out.2.2.1 (by rw [KK.out.1, decide_eq_true ha0, decide_eq_true ha8, decide_eq_true (show 1 < P by omega)]; simp)
          rw [if_neg hP0] at hst
          have HR := Lib.hid hst
          clear hst hP0 hP2 ha0 ha8
          go_wp2
          refine region_plain (fun w' => w'.cell? ⟨w.heap.size, 0, none⟩ = some (.slice A n c') ∧ w'.cell? ⟨w.heap.size, 1, none⟩ = some (.slice B m d) ∧ w'.cell? ⟨db, off + k, none⟩ = some (.int .i64 (z : Int)) ∧ w'.cell? ⟨q, 0, none⟩ = some (.int .u64 (p0 : Int)) ∧ w'.cell? ⟨q, 1, none⟩ = some (.int .u64 (p1 : Int)) ∧ Grow w4 w') (by kernel_rfl) ⟨b0, b1, x0, d0, d1, hgz.drew⟩ (fun hHeld => ?_)
          refine wpAnyH_take (i := 0) (v := ?_) rfl (by kernel_rfl) (by kernel_rfl) (by kernel_rfl) (fun _ _ _ h => h) (Or.inl ⟨by first | kernel_rfl | rfl, ?_⟩) (by assumption) ?_
          rotate_left
          · intro w hSw; (try dsimp only at hSw); (try go_split_ands); go_simp; first | done | with_reducible rfl
          try simp only [Act.put, List.getElem_toArray, List.getElem_cons_zero, List.setIfInBounds_toArray, List.set_cons_zero, List.set_cons_succ]
          refine wpAnyH_take (i := 1) (v := ?_) rfl (by kernel_rfl) (by kernel_rfl) (by kernel_rfl) (fun _ _ _ h => h) (Or.inl ⟨by first | kernel_rfl | rfl, ?_⟩) (by assumption) ?_
          rotate_left
          · intro w hSw; (try dsimp only at hSw); (try go_split_ands); go_simp; first | done | with_reducible rfl
          try simp only [Act.put, List.getElem_toArray, List.getElem_cons_succ, List.getElem_cons_zero, List.setIfInBounds_toArray, List.set_cons_zero, List.set_cons_succ]
          refine wpAnyH_take (i := 2) (v := ?_) rfl (by kernel_rfl) (by kernel_rfl) (by kernel_rfl) (fun _ _ _ h => h) (Or.inl ⟨by first | kernel_rfl | rfl, ?_⟩) (by assumption) ?_
          rotate_left
          · intro w hSw; (try dsimp only at hSw); (try go_split_ands); go_simp; first | done | with_reducible rfl
          try simp only [Act.put, List.getElem_toArray, List.getElem_cons_succ, List.getElem_cons_zero, List.setIfInBounds_toArray, List.set_cons_zero, List.set_cons_succ]
          refine wpAnyH_take (i := 3) (v := ?_) rfl (by kernel_rfl) (by kernel_rfl) (by kernel_rfl) (fun _ _ _ h => h) (Or.inl ⟨by first | kernel_rfl | rfl, ?_⟩) (by assumption) ?_
          rotate_left
          · intro w hSw; (try dsimp only at hSw); (try go_split_ands); go_simp; first | done | with_reducible rfl
          try simp only [Act.put, List.getElem_toArray, List.getElem_cons_succ, List.getElem_cons_zero, List.setIfInBounds_toArray, List.set_cons_zero, List.set_cons_succ]
          refine wpAnyH_take (i := 4) (v := ?_) rfl (by kernel_rfl) (by kernel_rfl) (by kernel_rfl) (fun _ _ _ h => h) (Or.inl ⟨by first | kernel_rfl | rfl, ?_⟩) (by assumption) ?_
          rotate_left
          · intro w hSw; (try dsimp only at hSw); (try go_split_ands); go_simp; first | done | with_reducible rfl
          try simp only [Act.put, List.getElem_toArray, List.getElem_cons_succ, List.getElem_cons_zero, List.setIfInBounds_toArray, List.set_cons_zero, List.set_cons_succ]
          refine wpAnyH_take (i := 5) (v := ?_) rfl (by kernel_rfl) (by kernel_rfl) (by kernel_rfl) (fun _ _ _ h => h) (Or.inl ⟨by first | kernel_rfl | rfl, ?_⟩) (by assumption) ?_
          rotate_left
          · intro w hSw; (try dsimp only at hSw); (try go_split_ands); go_simp; first | done | with_reducible rfl
          try simp only [Act.put, List.getElem_toArray, List.getElem_cons_succ, List.getElem_cons_zero, List.setIfInBounds_toArray, List.set_cons_zero, List.set_cons_succ]
          refine wpAnyH_take (i := 6) (v := ?_) rfl (by kernel_rfl) (by kernel_rfl) (by kernel_rfl) (fun _ _ _ h => h) (Or.inl ⟨by first | kernel_rfl | rfl, ?_⟩) (by assumption) ?_
          rotate_left
          · intro w hSw; (try dsimp only at hSw); (try go_split_ands); go_simp; first | done | with_reducible rfl
          try simp only [Act.put, List.getElem_toArray, List.getElem_cons_succ, List.getElem_cons_zero, List.setIfInBounds_toArray, List.set_cons_zero, List.set_cons_succ]
          refine wpAnyH_take (i := 7) (v := ?_) rfl (by kernel_rfl) (by kernel_rfl) (by kernel_rfl) (fun _ _ _ h => h) (Or.inl ⟨by first | kernel_rfl | rfl, ?_⟩) (by assumption) ?_
          rotate_left
          · intro w hSw; (try dsimp only at hSw); (try go_split_ands); go_simp; first | done | with_reducible rfl
          try simp only [Act.put, List.getElem_toArray, List.getElem_cons_succ, List.getElem_cons_zero, List.setIfInBounds_toArray, List.set_cons_zero, List.set_cons_succ]
          refine wpAnyH_take (i := 10) (v := ?_) rfl (by kernel_rfl) (by kernel_rfl) (by kernel_rfl) (fun _ _ _ h => h) (Or.inl ⟨by first | kernel_rfl | rfl, ?_⟩) (by assumption) ?_
          rotate_left
          · intro w hSw; (try dsimp only at hSw); (try go_split_ands); go_simp; first | done | with_reducible rfl
          try simp only [Act.put, List.getElem_toArray, List.getElem_cons_succ, List.getElem_cons_zero, List.setIfInBounds_toArray, List.set_cons_zero, List.set_cons_succ]
          refine wpAnyH_take (i := 11) (v := ?_) rfl (by kernel_rfl) (by kernel_rfl) (by kernel_rfl) (fun _ _ _ h => h) (Or.inl ⟨by first | kernel_rfl | rfl, ?_⟩) (by assumption) ?_
          rotate_left
          · intro w hSw; (try dsimp only at hSw); (try go_split_ands); go_simp; first | done | with_reducible rfl
          try simp only [Act.put, List.getElem_toArray, List.getElem_cons_succ, List.getElem_cons_zero, List.setIfInBounds_toArray, List.set_cons_zero, List.set_cons_succ]
          refine wpAnyH_ready (rs := [8]) (by kernel_rfl) (by simp) ?_
          refine AllReadyH.cons rfl (fun K hK => ?_) AllReadyH.nil
          go_simp
          go_at_call 178
          go_split_ands
          refine Calls.mono (hat _) ?_
          rintro e w5 ⟨rfl, rfl⟩
          go_wp2_with fail
          refine hK.out _ _ ?_ (fun hHeld => ?_)
          · exact ⟨(cell_of_heap (Grow.heap (Below.drew hgz) hB4) 0).trans rfl, (cell_of_heap (Grow.heap (Below.drew hgz) hB4) 1).trans rfl, hxk _ (Below.drew hgz), (cell_of_heap (Grow.heap (Below.drew hgz) hQ4) 0).trans rfl, (cell_of_heap (Grow.heap (Below.drew hgz) hQ4) 1).trans rfl, (Below.drew hgz)⟩
          clear hK K
          try simp only [Act.put, List.getElem_toArray, List.getElem_cons_succ, List.getElem_cons_zero, List.setIfInBounds_toArray, List.set_cons_zero, List.set_cons_succ]
          refine wpAnyH_ready (rs := [9]) (by kernel_rfl) (by simp) ?_
          refine AllReadyH.cons rfl (fun K hK => ?_) AllReadyH.nil
          go_simp
          go_at_call 157
          replace hgz : Grow w4 wn.drew := hgz.drew
          refine Calls.mono (hd0 _ hgz) ?_
          rintro e w6 ⟨rfl, hg6⟩
          replace hgz := hgz.trans hg6
          go_wp2_with fail
          refine hK.out _ _ ?_ (fun hHeld => ?_)
          · exact ⟨(cell_of_heap (hgz.heap hB4) 0).trans rfl, (cell_of_heap (hgz.heap hB4) 1).trans rfl, hxk _ hgz, (cell_of_heap (hgz.heap hQ4) 0).trans rfl, (cell_of_heap (hgz.heap hQ4) 1).trans rfl, hgz⟩
          clear hK K
          try simp only [Act.put, List.getElem_toArray, List.getElem_cons_succ, List.getElem_cons_zero, List.setIfInBounds_toArray, List.set_cons_zero, List.set_cons_succ]
          refine wpAnyH_take (i := 12) (v := ?_) rfl (by kernel_rfl) (by kernel_rfl) (by kernel_rfl) (fun _ _ _ h => h) (Or.inl ⟨by first | kernel_rfl | rfl, ?_⟩) (by assumption) ?_
          rotate_left
          · intro w hSw; (try dsimp only at hSw); (try go_split_ands); go_simp; first | done | with_reducible rfl
          try simp only [Act.put, List.getElem_toArray, List.getElem_cons_succ, List.getElem_cons_zero, List.setIfInBounds_toArray, List.set_cons_zero, List.set_cons_succ]
          refine wpAnyH_take (i := 13) (v := ?_) rfl (by kernel_rfl) (by kernel_rfl) (by kernel_rfl) (fun _ _ _ h => h) (Or.inl ⟨by first | kernel_rfl | rfl, ?_⟩) (by assumption) ?_
          rotate_left
          · intro w hSw; (try dsimp only at hSw); (try go_split_ands); go_simp; first | done | with_reducible rfl
          try simp only [Act.put, List.getElem_toArray, List.getElem_cons_succ, List.getElem_cons_zero, List.setIfInBounds_toArray, List.set_cons_zero, List.set_cons_succ]
          refine wpAnyH_take (i := 14) (v := ?_) rfl (by kernel_rfl) (by kernel_rfl) (by kernel_rfl) (fun _ _ _ h => h) (Or.inl ⟨by first | kernel_rfl | rfl, ?_⟩) (by assumption) ?_
          rotate_left
          · intro w hSw; (try dsimp only at hSw); (try go_split_ands); go_simp; first | done | with_reducible rfl
          try simp only [Act.put, List.getElem_toArray, List.getElem_cons_succ, List.getElem_cons_zero, List.setIfInBounds_toArray, List.set_cons_zero, List.set_cons_succ]
          refine wpAnyH_take (i := 15) (v := ?_) rfl (by kernel_rfl) (by kernel_rfl) (by kernel_rfl) (fun _ _ _ h => h) (Or.inl ⟨by first | kernel_rfl | rfl, ?_⟩) (by assumption) ?_
          rotate_left
          · intro w hSw; (try dsimp only at hSw); (try go_split_ands); go_simp; first | done | with_reducible rfl
          try simp only [Act.put, List.getElem_toArray, List.getElem_cons_succ, List.getElem_cons_zero, List.setIfInBounds_toArray, List.set_cons_zero, List.set_cons_succ]
          refine wpAnyH_take (i := 16) (v := ?_) rfl (by kernel_rfl) (by kernel_rfl) (by kernel_rfl) (fun _ _ _ h => h) (Or.inl ⟨by first | kernel_rfl | rfl, ?_⟩) (by assumption) ?_
          rotate_left
          · intro w hSw; (try dsimp only at hSw); (try go_split_ands); go_simp; first | done | with_reducible rfl
          try simp only [Act.put, List.getElem_toArray, List.getElem_cons_succ, List.getElem_cons_zero, List.setIfInBounds_toArray, List.set_cons_zero, List.set_cons_succ]
          refine wpAnyH_take (i := 17) (v := ?_) rfl (by kernel_rfl) (by kernel_rfl) (by kernel_rfl) (fun _ _ _ h => h) (Or.inl ⟨by first | kernel_rfl | rfl, ?_⟩) (by assumption) ?_
          rotate_left
          · intro w hSw; (try dsimp only at hSw); (try go_split_ands); go_simp; first | done | with_reducible rfl
          try simp only [Act.put, List.getElem_toArray, List.getElem_cons_succ, List.getElem_cons_zero, List.setIfInBounds_toArray, List.set_cons_zero, List.set_cons_succ]
          refine wpAnyH_take (i := 18) (v := ?_) rfl (by kernel_rfl) (by kernel_rfl) (by kernel_rfl) (fun _ _ _ h => h) (Or.inl ⟨by first | kernel_rfl | rfl, ?_⟩) (by assumption) ?_
          rotate_left
          · intro w hSw; (try dsimp only at hSw); (try go_split_ands); go_simp; first | done | with_reducible rfl
          try simp only [Act.put, List.getElem_toArray, List.getElem_cons_succ, List.getElem_cons_zero, List.setIfInBounds_toArray, List.set_cons_zero, List.set_cons_succ]
          refine wpAnyH_take (i := 19) (v := ?_) rfl (by kernel_rfl) (by kernel_rfl) (by kernel_rfl) (fun _ _ _ h => h) (Or.inl ⟨by first | kernel_rfl | rfl, ?_⟩) (by assumption) ?_
          rotate_left
          · intro w hSw; (try dsimp only at hSw); (try go_split_ands); go_simp; first | done | with_reducible rfl
          try simp only [Act.put, List.getElem_toArray, List.getElem_cons_succ, List.getElem_cons_zero, List.setIfInBounds_toArray, List.set_cons_zero, List.set_cons_succ]
          refine wpAnyH_take (i := 23) (v := ?_) rfl (by kernel_rfl) (by kernel_rfl) (by kernel_rfl) (fun _ _ _ h => h) (Or.inl ⟨by first | kernel_rfl | rfl, ?_⟩) (by assumption) ?_
          rotate_left
          · intro w hSw; (try dsimp only at hSw); (try go_split_ands); go_simp; first | done | with_reducible rfl
          try simp only [Act.put, List.getElem_toArray, List.getElem_cons_succ, List.getElem_cons_zero, List.setIfInBounds_toArray, List.set_cons_zero, List.set_cons_succ]
          refine wpAnyH_take (i := 24) (v := ?_) rfl (by kernel_rfl) (by kernel_rfl) (by kernel_rfl) (fun _ _ _ h => h) (Or.inl ⟨by first | kernel_rfl | rfl, ?_⟩) (by assumption) ?_
          rotate_left
          · intro w hSw; (try dsimp only at hSw); (try go_split_ands); go_simp; first | done | with_reducible rfl
          try simp only [Act.put, List.getElem_toArray, List.getElem_cons_succ, List.getElem_cons_zero, List.setIfInBounds_toArray, List.set_cons_zero, List.set_cons_succ]
          refine wpAnyH_ready (rs := [20]) (by kernel_rfl) (by simp) ?_
          refine AllReadyH.cons rfl (fun K hK => ?_) AllReadyH.nil
          go_simp
          go_at_call 178
          refine Calls.mono (hat _) ?_
          rintro e w7 ⟨rfl, rfl⟩
          go_wp2_with fail
          refine hK.out _ _ ?_ (fun hHeld => ?_)
          · exact ⟨(cell_of_heap (hgz.heap hB4) 0).trans rfl, (cell_of_heap (hgz.heap hB4) 1).trans rfl, hxk _ hgz, (cell_of_heap (hgz.heap hQ4) 0).trans rfl, (cell_of_heap (hgz.heap hQ4) 1).trans rfl, hgz⟩
          clear hK K
          try simp only [Act.put, List.getElem_toArray, List.getElem_cons_succ, List.getElem_cons_zero, List.setIfInBounds_toArray, List.set_cons_zero, List.set_cons_succ]
          refine wpAnyH_take (i := 21) (v := ?_) rfl (by kernel_rfl) (by kernel_rfl) (by kernel_rfl) (fun _ _ _ h => h) (Or.inl ⟨by first | kernel_rfl | rfl, ?_⟩) (by assumption) ?_
          rotate_left
          · intro w hSw; (try dsimp only at hSw); (try go_split_ands); go_simp; first | done | with_reducible rfl
          try simp only [Act.put, List.getElem_toArray, List.getElem_cons_succ, List.getElem_cons_zero, List.setIfInBounds_toArray, List.set_cons_zero, List.set_cons_succ]
          refine wpAnyH_ready (rs := [22]) (by kernel_rfl) (by simp) ?_
          refine AllReadyH.cons rfl (fun K hK => ?_) AllReadyH.nil
          go_simp
          go_at_call 157
          refine Calls.mono (hd8 _ hgz) ?_
          rintro e w8 ⟨rfl, hg8⟩
          replace hgz := hgz.trans hg8
          go_wp2_with fail
          refine hK.out _ _ ?_ (fun hHeld => ?_)
          · exact ⟨(cell_of_heap (hgz.heap hB4) 0).trans rfl, (cell_of_heap (hgz.heap hB4) 1).trans rfl, hxk _ hgz, (cell_of_heap (hgz.heap hQ4) 0).trans rfl, (cell_of_heap (hgz.heap hQ4) 1).trans rfl, hgz⟩
          clear hK K
          try simp only [Act.put, List.getElem_toArray, List.getElem_cons_succ, List.getElem_cons_zero, List.setIfInBounds_toArray, List.set_cons_zero, List.set_cons_succ]
          refine wpAnyH_take (i := 25) (v := ?_) rfl (by kernel_rfl) (by kernel_rfl) (by kernel_rfl) (fun _ _ _ h => h) (Or.inl ⟨by first | kernel_rfl | rfl, ?_⟩) (by assumption) ?_
          rotate_left
          · intro w hSw; (try dsimp only at hSw); (try go_split_ands); go_simp; first | done | with_reducible rfl
          try simp only [Act.put, List.getElem_toArray, List.getElem_cons_succ, List.getElem_cons_zero, List.setIfInBounds_toArray, List.set_cons_zero, List.set_cons_succ]
          refine wpAnyH_take (i := 26) (v := ?_) rfl (by kernel_rfl) (by kernel_rfl) (by kernel_rfl) (fun _ _ _ h => h) (Or.inl ⟨by first | kernel_rfl | rfl, ?_⟩) (by assumption) ?_
          rotate_left
          · intro w hSw; (try dsimp only at hSw); (try go_split_ands); go_simp; first | done | with_reducible rfl
          try simp only [Act.put, List.getElem_toArray, List.getElem_cons_succ, List.getElem_cons_zero, List.setIfInBounds_toArray, List.set_cons_zero, List.set_cons_succ]
          refine wpAnyH_done (by kernel_rfl) ?_ _
          refine NoPanic.normal ?_
          have x9 : w8.cell? ⟨db, off + k, none⟩ = some (.int .i64 (z : Int)) := hxk _ hgz
          clear hd0 hd8 hat hxk
          go_wp2
          go_ret
          exact ⟨by rw [HR.out, KK.out.2.2.2]; rfl, hG4.trans hgz⟩
        · have t5 : ((y8 : Int) == p1) = false := by rw [beq_eq_false_iff_ne]; omega
          have NX := Lib.hid (KK.out.2.1 (by rw [KK.out.1, decide_eq_false hP0, decide_eq_false ha8]; simp))
          clear hP0 hP2 ha0 ha8
          go_wp2
          refine region_plain (fun w' => w'.cell? ⟨w.heap.size, 0, none⟩ = some (.slice A n c') ∧ w'.cell? ⟨w.heap.size, 1, none⟩ = some (.slice B m d) ∧ w'.cell? ⟨db, off + k, none⟩ = some (.int .i64 (z : Int)) ∧ w'.cell? ⟨q, 0, none⟩ = some (.int .u64 (p0 : Int)) ∧ w'.cell? ⟨q, 1, none⟩ = some (.int .u64 (p1 : Int)) ∧ Grow w4 w') (by kernel_rfl) ⟨b0, b1, x0, d0, d1, hgz.drew⟩ (fun hHeld => ?_)
          refine wpAnyH_take (i := 0) (v := ?_) rfl (by kernel_rfl) (by kernel_rfl) (by kernel_rfl) (fun _ _ _ h => h) (Or.inl ⟨by first | kernel_rfl | rfl, ?_⟩) (by assumption) ?_
          rotate_left
          · intro w hSw; (try dsimp only at hSw); (try go_split_ands); go_simp; first | done | with_reducible rfl
          try simp only [Act.put, List.getElem_toArray, List.getElem_cons_zero, List.setIfInBounds_toArray, List.set_cons_zero, List.set_cons_succ]
          refine wpAnyH_take (i := 1) (v := ?_) rfl (by kernel_rfl) (by kernel_rfl) (by kernel_rfl) (fun _ _ _ h => h) (Or.inl ⟨by first | kernel_rfl | rfl, ?_⟩) (by assumption) ?_
          rotate_left
          · intro w hSw; (try dsimp only at hSw); (try go_split_ands); go_simp; first | done | with_reducible rfl
          try simp only [Act.put, List.getElem_toArray, List.getElem_cons_succ, List.getElem_cons_zero, List.setIfInBounds_toArray, List.set_cons_zero, List.set_cons_succ]
          refine wpAnyH_take (i := 2) (v := ?_) rfl (by kernel_rfl) (by kernel_rfl) (by kernel_rfl) (fun _ _ _ h => h) (Or.inl ⟨by first | kernel_rfl | rfl, ?_⟩) (by assumption) ?_
          rotate_left
          · intro w hSw; (try dsimp only at hSw); (try go_split_ands); go_simp; first | done | with_reducible rfl
          try simp only [Act.put, List.getElem_toArray, List.getElem_cons_succ, List.getElem_cons_zero, List.setIfInBounds_toArray, List.set_cons_zero, List.set_cons_succ]
          refine wpAnyH_take (i := 3) (v := ?_) rfl (by kernel_rfl) (by kernel_rfl) (by kernel_rfl) (fun _ _ _ h => h) (Or.inl ⟨by first | kernel_rfl | rfl, ?_⟩) (by assumption) ?_
          rotate_left
          · intro w hSw; (try dsimp only at hSw); (try go_split_ands); go_simp; first | done | with_reducible rfl
          try simp only [Act.put, List.getElem_toArray, List.getElem_cons_succ, List.getElem_cons_zero, List.setIfInBounds_toArray, List.set_cons_zero, List.set_cons_succ]
          refine wpAnyH_take (i := 4) (v := ?_) rfl (by kernel_rfl) (by kernel_rfl) (by kernel_rfl) (fun _ _ _ h => h) (Or.inl ⟨by first | kernel_rfl | rfl, ?_⟩) (by assumption) ?_
          rotate_left
          · intro w hSw; (try dsimp only at hSw); (try go_split_ands); go_simp; first | done | with_reducible rfl
          try simp only [Act.put, List.getElem_toArray, List.getElem_cons_succ, List.getElem_cons_zero, List.setIfInBounds_toArray, List.set_cons_zero, List.set_cons_succ]
          refine wpAnyH_take (i := 5) (v := ?_) rfl (by kernel_rfl) (by kernel_rfl) (by kernel_rfl) (fun _ _ _ h => h) (Or.inl ⟨by first | kernel_rfl | rfl, ?_⟩) (by assumption) ?_
          rotate_left
          · intro w hSw; (try dsimp only at hSw); (try go_split_ands); go_simp; first | done | with_reducible rfl
          try simp only [Act.put, List.getElem_toArray, List.getElem_cons_succ, List.getElem_cons_zero, List.setIfInBounds_toArray, List.set_cons_zero, List.set_cons_succ]
          refine wpAnyH_take (i := 6) (v := ?_) rfl (by kernel_rfl) (by kernel_rfl) (by kernel_rfl) (fun _ _ _ h => h) (Or.inl ⟨by first | kernel_rfl | rfl, ?_⟩) (by assumption) ?_
          rotate_left
          · intro w hSw; (try dsimp only at hSw); (try go_split_ands); go_simp; first | done | with_reducible rfl
          try simp only [Act.put, List.getElem_toArray, List.getElem_cons_succ, List.getElem_cons_zero, List.setIfInBounds_toArray, List.set_cons_zero, List.set_cons_succ]
          refine wpAnyH_take (i := 7) (v := ?_) rfl (by kernel_rfl) (by kernel_rfl) (by kernel_rfl) (fun _ _ _ h => h) (Or.inl ⟨by first | kernel_rfl | rfl, ?_⟩) (by assumption) ?_
          rotate_left
          · intro w hSw; (try dsimp only at hSw); (try go_split_ands); go_simp; first | done | with_reducible rfl
          try simp only [Act.put, List.getElem_toArray, List.getElem_cons_succ, List.getElem_cons_zero, List.setIfInBounds_toArray, List.set_cons_zero, List.set_cons_succ]
          refine wpAnyH_take (i := 10) (v := ?_) rfl (by kernel_rfl) (by kernel_rfl) (by kernel_rfl) (fun _ _ _ h => h) (Or.inl ⟨by first | kernel_rfl | rfl, ?_⟩) (by assumption) ?_
          rotate_left
          · intro w hSw; (try dsimp only at hSw); (try go_split_ands); go_simp; first | done | with_reducible rfl
          try simp only [Act.put, List.getElem_toArray, List.getElem_cons_succ, List.getElem_cons_zero, List.setIfInBounds_toArray, List.set_cons_zero, List.set_cons_succ]
          refine wpAnyH_take (i := 11) (v := ?_) rfl (by kernel_rfl) (by kernel_rfl) (by kernel_rfl) (fun _ _ _ h => h) (Or.inl ⟨by first | kernel_rfl | rfl, ?_⟩) (by assumption) ?_
          rotate_left
          · intro w hSw; (try dsimp only at hSw); (try go_split_ands); go_simp; first | done | with_reducible rfl
          try simp only [Act.put, List.getElem_toArray, List.getElem_cons_succ, List.getElem_cons_zero, List.setIfInBounds_toArray, List.set_cons_zero, List.set_cons_succ]
          refine wpAnyH_ready (rs := [8]) (by kernel_rfl) (by simp) ?_
          refine AllReadyH.cons rfl (fun K hK => ?_) AllReadyH.nil
          go_simp
          go_at_call 178
          go_split_ands
          refine Calls.mono (hat _) ?_
          rintro e w5 ⟨rfl, rfl⟩
          go_wp2_with fail
          refine hK.out _ _ ?_ (fun hHeld => ?_)
          · exact ⟨(cell_of_heap (Grow.heap (Below.drew hgz) hB4) 0).trans rfl, (cell_of_heap (Grow.heap (Below.drew hgz) hB4) 1).trans rfl, hxk _ (Below.drew hgz), (cell_of_heap (Grow.heap (Below.drew hgz) hQ4) 0).trans rfl, (cell_of_heap (Grow.heap (Below.drew hgz) hQ4) 1).trans rfl, (Below.drew hgz)⟩
          clear hK K
          try simp only [Act.put, List.getElem_toArray, List.getElem_cons_succ, List.getElem_cons_zero, List.setIfInBounds_toArray, List.set_cons_zero, List.set_cons_succ]
          refine wpAnyH_ready (rs := [9]) (by kernel_rfl) (by simp) ?_
          refine AllReadyH.cons rfl (fun K hK => ?_) AllReadyH.nil
          go_simp
          go_at_call 157
          replace hgz : Grow w4 wn.drew := hgz.drew
          refine Calls.mono (hd0 _ hgz) ?_
          rintro e w6 ⟨rfl, hg6⟩
          replace hgz := hgz.trans hg6
          go_wp2_with fail
          refine hK.out _ _ ?_ (fun hHeld => ?_)
          · exact ⟨(cell_of_heap (hgz.heap hB4) 0).trans rfl, (cell_of_heap (hgz.heap hB4) 1).trans rfl, hxk _ hgz, (cell_of_heap (hgz.heap hQ4) 0).trans rfl, (cell_of_heap (hgz.heap hQ4) 1).trans rfl, hgz⟩
          clear hK K
          try simp only [Act.put, List.getElem_toArray, List.getElem_cons_succ, List.getElem_cons_zero, List.setIfInBounds_toArray, List.set_cons_zero, List.set_cons_succ]
          refine wpAnyH_take (i := 12) (v := ?_) rfl (by kernel_rfl) (by kernel_rfl) (by kernel_rfl) (fun _ _ _ h => h) (Or.inl ⟨by first | kernel_rfl | rfl, ?_⟩) (by assumption) ?_
          rotate_left
          · intro w hSw; (try dsimp only at hSw); (try go_split_ands); go_simp; first | done | with_reducible rfl
          try simp only [Act.put, List.getElem_toArray, List.getElem_cons_succ, List.getElem_cons_zero, List.setIfInBounds_toArray, List.set_cons_zero, List.set_cons_succ]
          refine wpAnyH_take (i := 13) (v := ?_) rfl (by kernel_rfl) (by kernel_rfl) (by kernel_rfl) (fun _ _ _ h => h) (Or.inl ⟨by first | kernel_rfl | rfl, ?_⟩) (by assumption) ?_
          rotate_left
          · intro w hSw; (try dsimp only at hSw); (try go_split_ands); go_simp; first | done | with_reducible rfl
          try simp only [Act.put, List.getElem_toArray, List.getElem_cons_succ, List.getElem_cons_zero, List.setIfInBounds_toArray, List.set_cons_zero, List.set_cons_succ]
          refine wpAnyH_take (i := 14) (v := ?_) rfl (by kernel_rfl) (by kernel_rfl) (by kernel_rfl) (fun _ _ _ h => h) (Or.inl ⟨by first | kernel_rfl | rfl, ?_⟩) (by assumption) ?_
          rotate_left
          · intro w hSw; (try dsimp only at hSw); (try go_split_ands); go_simp; first | done | with_reducible rfl
          try simp only [Act.put, List.getElem_toArray, List.getElem_cons_succ, List.getElem_cons_zero, List.setIfInBounds_toArray, List.set_cons_zero, List.set_cons_succ]
          refine wpAnyH_take (i := 15) (v := ?_) rfl (by kernel_rfl) (by kernel_rfl) (by kernel_rfl) (fun _ _ _ h => h) (Or.inl ⟨by first | kernel_rfl | rfl, ?_⟩) (by assumption) ?_
          rotate_left
          · intro w hSw; (try dsimp only at hSw); (try go_split_ands); go_simp; first | done | with_reducible rfl
          try simp only [Act.put, List.getElem_toArray, List.getElem_cons_succ, List.getElem_cons_zero, List.setIfInBounds_toArray, List.set_cons_zero, List.set_cons_succ]
          refine wpAnyH_take (i := 16) (v := ?_) rfl (by kernel_rfl) (by kernel_rfl) (by kernel_rfl) (fun _ _ _ h => h) (Or.inl ⟨by first | kernel_rfl | rfl, ?_⟩) (by assumption) ?_
          rotate_left
          · intro w hSw; (try dsimp only at hSw); (try go_split_ands); go_simp; first | done | with_reducible rfl
          try simp only [Act.put, List.getElem_toArray, List.getElem_cons_succ, List.getElem_cons_zero, List.setIfInBounds_toArray, List.set_cons_zero, List.set_cons_succ]
          refine wpAnyH_take (i := 17) (v := ?_) rfl (by kernel_rfl) (by kernel_rfl) (by kernel_rfl) (fun _ _ _ h => h) (Or.inl ⟨by first | kernel_rfl | rfl, ?_⟩) (by assumption) ?_
          rotate_left
          · intro w hSw; (try dsimp only at hSw); (try go_split_ands); go_simp; first | done | with_reducible rfl
          try simp only [Act.put, List.getElem_toArray, List.getElem_cons_succ, List.getElem_cons_zero, List.setIfInBounds_toArray, List.set_cons_zero, List.set_cons_succ]
          refine wpAnyH_take (i := 18) (v := ?_) rfl (by kernel_rfl) (by kernel_rfl) (by kernel_rfl) (fun _ _ _ h => h) (Or.inl ⟨by first | kernel_rfl | rfl, ?_⟩) (by assumption) ?_
          rotate_left
          · intro w hSw; (try dsimp only at hSw); (try go_split_ands); go_simp; first | done | with_reducible rfl
          try simp only [Act.put, List.getElem_toArray, List.getElem_cons_succ, List.getElem_cons_zero, List.setIfInBounds_toArray, List.set_cons_zero, List.set_cons_succ]
          refine wpAnyH_take (i := 19) (v := ?_) rfl (by kernel_rfl) (by kernel_rfl) (by kernel_rfl) (fun _ _ _ h => h) (Or.inl ⟨by first | kernel_rfl | rfl, ?_⟩) (by assumption) ?_
          rotate_left
          · intro w hSw; (try dsimp only at hSw); (try go_split_ands); go_simp; first | done | with_reducible rfl
          try simp only [Act.put, List.getElem_toArray, List.getElem_cons_succ, List.getElem_cons_zero, List.setIfInBounds_toArray, List.set_cons_zero, List.set_cons_succ]
          refine wpAnyH_take (i := 23) (v := ?_) rfl (by kernel_rfl) (by kernel_rfl) (by kernel_rfl) (fun _ _ _ h => h) (Or.inl ⟨by first | kernel_rfl | rfl, ?_⟩) (by assumption) ?_
          rotate_left
          · intro w hSw; (try dsimp only at hSw); (try go_split_ands); go_simp; first | done | with_reducible rfl
          try simp only [Act.put, List.getElem_toArray, List.getElem_cons_succ, List.getElem_cons_zero, List.setIfInBounds_toArray, List.set_cons_zero, List.set_cons_succ]
          refine wpAnyH_take (i := 24) (v := ?_) rfl (by kernel_rfl) (by kernel_rfl) (by kernel_rfl) (fun _ _ _ h => h) (Or.inl ⟨by first | kernel_rfl | rfl, ?_⟩) (by assumption) ?_
          rotate_left
          · intro w hSw; (try dsimp only at hSw); (try go_split_ands); go_simp; first | done | with_reducible rfl
          try simp only [Act.put, List.getElem_toArray, List.getElem_cons_succ, List.getElem_cons_zero, List.setIfInBounds_toArray, List.set_cons_zero, List.set_cons_succ]
          refine wpAnyH_ready (rs := [20]) (by kernel_rfl) (by simp) ?_
          refine AllReadyH.cons rfl (fun K hK => ?_) AllReadyH.nil
          go_simp
          go_at_call 178
          refine Calls.mono (hat _) ?_
          rintro e w7 ⟨rfl, rfl⟩
          go_wp2_with fail
          refine hK.out _ _ ?_ (fun hHeld => ?_)
          · exact ⟨(cell_of_heap (hgz.heap hB4) 0).trans rfl, (cell_of_heap (hgz.heap hB4) 1).trans rfl, hxk _ hgz, (cell_of_heap (hgz.heap hQ4) 0).trans rfl, (cell_of_heap (hgz.heap hQ4) 1).trans rfl, hgz⟩
          clear hK K
          try simp only [Act.put, List.getElem_toArray, List.getElem_cons_succ, List.getElem_cons_zero, List.setIfInBounds_toArray, List.set_cons_zero, List.set_cons_succ]
          refine wpAnyH_take (i := 21) (v := ?_) rfl (by kernel_rfl) (by kernel_rfl) (by kernel_rfl) (fun _ _ _ h => h) (Or.inl ⟨by first | kernel_rfl | rfl, ?_⟩) (by assumption) ?_
          rotate_left
          · intro w hSw; (try dsimp only at hSw); (try go_split_ands); go_simp; first | done | with_reducible rfl
          try simp only [Act.put, List.getElem_toArray, List.getElem_cons_succ, List.getElem_cons_zero, List.setIfInBounds_toArray, List.set_cons_zero, List.set_cons_succ]
          refine wpAnyH_ready (rs := [22]) (by kernel_rfl) (by simp) ?_
          refine AllReadyH.cons rfl (fun K hK => ?_) AllReadyH.nil
          go_simp
          go_at_call 157
          refine Calls.mono (hd8 _ hgz) ?_
          rintro e w8 ⟨rfl, hg8⟩
          replace hgz := hgz.trans hg8
          go_wp2_with fail
          refine hK.out _ _ ?_ (fun hHeld => ?_)
          · exact ⟨(cell_of_heap (hgz.heap hB4) 0).trans rfl, (cell_of_heap (hgz.heap hB4) 1).trans rfl, hxk _ hgz, (cell_of_heap (hgz.heap hQ4) 0).trans rfl, (cell_of_heap (hgz.heap hQ4) 1).trans rfl, hgz⟩
          clear hK K
          try simp only [Act.put, List.getElem_toArray, List.getElem_cons_succ, List.getElem_cons_zero, List.setIfInBounds_toArray, List.set_cons_zero, List.set_cons_succ]
          refine wpAnyH_take (i := 25) (v := ?_) rfl (by kernel_rfl) (by kernel_rfl) (by kernel_rfl) (fun _ _ _ h => h) (Or.inl ⟨by first | kernel_rfl | rfl, ?_⟩) (by assumption) ?_
          rotate_left
          · intro w hSw; (try dsimp only at hSw); (try go_split_ands); go_simp; first | done | with_reducible rfl
          try simp only [Act.put, List.getElem_toArray, List.getElem_cons_succ, List.getElem_cons_zero, List.setIfInBounds_toArray, List.set_cons_zero, List.set_cons_succ]
          refine wpAnyH_take (i := 26) (v := ?_) rfl (by kernel_rfl) (by kernel_rfl) (by kernel_rfl) (fun _ _ _ h => h) (Or.inl ⟨by first | kernel_rfl | rfl, ?_⟩) (by assumption) ?_
          rotate_left
          · intro w hSw; (try dsimp only at hSw); (try go_split_ands); go_simp; first | done | with_reducible rfl
          try simp only [Act.put, List.getElem_toArray, List.getElem_cons_succ, List.getElem_cons_zero, List.setIfInBounds_toArray, List.set_cons_zero, List.set_cons_succ]
          refine wpAnyH_done (by kernel_rfl) ?_ _
          refine NoPanic.normal ?_
          go_wp2
          go_roundw
          case rel => exact ⟨k + 1, by omega, by go_num, hgz, NX.out⟩
          case measure => simp [intOf]; omega
      · have t4 : ((y0 : Int) == p0) = false := by rw [beq_eq_false_iff_ne]; omega
        have NX := Lib.hid (KK.out.2.1 (by rw [KK.out.1, decide_eq_false hP0, decide_eq_false ha0]; simp))
        clear hP0 hP2 ha0
        go_wp2
        refine region_plain (fun w' => w'.cell? ⟨w.heap.size, 0, none⟩ = some (.slice A n c') ∧ w'.cell? ⟨w.heap.size, 1, none⟩ = some (.slice B m d) ∧ w'.cell? ⟨db, off + k, none⟩ = some (.int .i64 (z : Int)) ∧ w'.cell? ⟨q, 0, none⟩ = some (.int .u64 (p0 : Int)) ∧ w'.cell? ⟨q, 1, none⟩ = some (.int .u64 (p1 : Int)) ∧ Grow w4 w') (by kernel_rfl) ⟨b0, b1, x0, d0, d1, hgz.drew⟩ (fun hHeld => ?_)
        refine wpAnyH_take (i := 0) (v := ?_) rfl (by kernel_rfl) (by kernel_rfl) (by kernel_rfl) (fun _ _ _ h => h) (Or.inl ⟨by first | kernel_rfl | rfl, ?_⟩) (by assumption) ?_
        rotate_left
        · intro w hSw; (try dsimp only at hSw); (try go_split_ands); go_simp; first | done | with_reducible rfl
        try simp only [Act.put, List.getElem_toArray, List.getElem_cons_zero, List.setIfInBounds_toArray, List.set_cons_zero, List.set_cons_succ]
        refine wpAnyH_take (i := 1) (v := ?_) rfl (by kernel_rfl) (by kernel_rfl) (by kernel_rfl) (fun _ _ _ h => h) (Or.inl ⟨by first | kernel_rfl | rfl, ?_⟩) (by assumption) ?_
        rotate_left
        · intro w hSw; (try dsimp only at hSw); (try go_split_ands); go_simp; first | done | with_reducible rfl
        try simp only [Act.put, List.getElem_toArray, List.getElem_cons_succ, List.getElem_cons_zero, List.setIfInBounds_toArray, List.set_cons_zero, List.set_cons_succ]
        refine wpAnyH_take (i := 2) (v := ?_) rfl (by kernel_rfl) (by kernel_rfl) (by kernel_rfl) (fun _ _ _ h => h) (Or.inl ⟨by first | kernel_rfl | rfl, ?_⟩) (by assumption) ?_
        rotate_left
        · intro w hSw; (try dsimp only at hSw); (try go_split_ands); go_simp; first | done | with_reducible rfl
        try simp only [Act.put, List.getElem_toArray, List.getElem_cons_succ, List.getElem_cons_zero, List.setIfInBounds_toArray, List.set_cons_zero, List.set_cons_succ]
        refine wpAnyH_take (i := 3) (v := ?_) rfl (by kernel_rfl) (by kernel_rfl) (by kernel_rfl) (fun _ _ _ h => h) (Or.inl ⟨by first | kernel_rfl | rfl, ?_⟩) (by assumption) ?_
        rotate_left
        · intro w hSw; (try dsimp only at hSw); (try go_split_ands); go_simp; first | done | with_reducible rfl
        try simp only [Act.put, List.getElem_toArray, List.getElem_cons_succ, List.getElem_cons_zero, List.setIfInBounds_toArray, List.set_cons_zero, List.set_cons_succ]
        refine wpAnyH_take (i := 4) (v := ?_) rfl (by kernel_rfl) (by kernel_rfl) (by kernel_rfl) (fun _ _ _ h => h) (Or.inl ⟨by first | kernel_rfl | rfl, ?_⟩) (by assumption) ?_
        rotate_left
        · intro w hSw; (try dsimp only at hSw); (try go_split_ands); go_simp; first | done | with_reducible rfl
        try simp only [Act.put, List.getElem_toArray, List.getElem_cons_succ, List.getElem_cons_zero, List.setIfInBounds_toArray, List.set_cons_zero, List.set_cons_succ]
        refine wpAnyH_take (i := 5) (v := ?_) rfl (by kernel_rfl) (by kernel_rfl) (by kernel_rfl) (fun _ _ _ h => h) (Or.inl ⟨by first | kernel_rfl | rfl, ?_⟩) (by assumption) ?_
        rotate_left
        · intro w hSw; (try dsimp only at hSw); (try go_split_ands); go_simp; first | done | with_reducible rfl
        try simp only [Act.put, List.getElem_toArray, List.getElem_cons_succ, List.getElem_cons_zero, List.setIfInBounds_toArray, List.set_cons_zero, List.set_cons_succ]
        refine wpAnyH_take (i := 6) (v := ?_) rfl (by kernel_rfl) (by kernel_rfl) (by kernel_rfl) (fun _ _ _ h => h) (Or.inl ⟨by first | kernel_rfl | rfl, ?_⟩) (by assumption) ?_
        rotate_left
        · intro w hSw; (try dsimp only at hSw); (try go_split_ands); go_simp; first | done | with_reducible rfl
        try simp only [Act.put, List.getElem_toArray, List.getElem_cons_succ, List.getElem_cons_zero, List.setIfInBounds_toArray, List.set_cons_zero, List.set_cons_succ]
        refine wpAnyH_take (i := 7) (v := ?_) rfl (by kernel_rfl) (by kernel_rfl) (by kernel_rfl) (fun _ _ _ h => h) (Or.inl ⟨by first | kernel_rfl | rfl, ?_⟩) (by assumption) ?_
        rotate_left
        · intro w hSw; (try dsimp only at hSw); (try go_split_ands); go_simp; first | done | with_reducible rfl
        try simp only [Act.put, List.getElem_toArray, List.getElem_cons_succ, List.getElem_cons_zero, List.setIfInBounds_toArray, List.set_cons_zero, List.set_cons_succ]
        refine wpAnyH_take (i := 10) (v := ?_) rfl (by kernel_rfl) (by kernel_rfl) (by kernel_rfl) (fun _ _ _ h => h) (Or.inl ⟨by first | kernel_rfl | rfl, ?_⟩) (by assumption) ?_
        rotate_left
        · intro w hSw; (try dsimp only at hSw); (try go_split_ands); go_simp; first | done | with_reducible rfl
        try simp only [Act.put, List.getElem_toArray, List.getElem_cons_succ, List.getElem_cons_zero, List.setIfInBounds_toArray, List.set_cons_zero, List.set_cons_succ]
        refine wpAnyH_take (i := 11) (v := ?_) rfl (by kernel_rfl) (by kernel_rfl) (by kernel_rfl) (fun _ _ _ h => h) (Or.inl ⟨by first | kernel_rfl | rfl, ?_⟩) (by assumption) ?_
        rotate_left
        · intro w hSw; (try dsimp only at hSw); (try go_split_ands); go_simp; first | done | with_reducible rfl
        try simp only [Act.put, List.getElem_toArray, List.getElem_cons_succ, List.getElem_cons_zero, List.setIfInBounds_toArray, List.set_cons_zero, List.set_cons_succ]
        refine wpAnyH_ready (rs := [8]) (by kernel_rfl) (by simp) ?_
        refine AllReadyH.cons rfl (fun K hK => ?_) AllReadyH.nil
        go_simp
        go_at_call 178
        go_split_ands
        refine Calls.mono (hat _) ?_
        rintro e w5 ⟨rfl, rfl⟩
        go_wp2_with fail
        refine hK.out _ _ ?_ (fun hHeld => ?_)
        · exact ⟨(cell_of_heap (Grow.heap (Below.drew hgz) hB4) 0).trans rfl, (cell_of_heap (Grow.heap (Below.drew hgz) hB4) 1).trans rfl, hxk _ (Below.drew hgz), (cell_of_heap (Grow.heap (Below.drew hgz) hQ4) 0).trans rfl, (cell_of_heap (Grow.heap (Below.drew hgz) hQ4) 1).trans rfl, (Below.drew hgz)⟩
        clear hK K
        try simp only [Act.put, List.getElem_toArray, List.getElem_cons_succ, List.getElem_cons_zero, List.setIfInBounds_toArray, List.set_cons_zero, List.set_cons_succ]
        refine wpAnyH_ready (rs := [9]) (by kernel_rfl) (by simp) ?_
        refine AllReadyH.cons rfl (fun K hK => ?_) AllReadyH.nil
        go_simp
        go_at_call 157
        replace hgz : Grow w4 wn.drew := hgz.drew
        refine Calls.mono (hd0 _ hgz) ?_
        rintro e w6 ⟨rfl, hg6⟩
        replace hgz := hgz.trans hg6
        go_wp2_with fail
        refine hK.out _ _ ?_ (fun hHeld => ?_)
        · exact ⟨(cell_of_heap (hgz.heap hB4) 0).trans rfl, (cell_of_heap (hgz.heap hB4) 1).trans rfl, hxk _ hgz, (cell_of_heap (hgz.heap hQ4) 0).trans rfl, (cell_of_heap (hgz.heap hQ4) 1).trans rfl, hgz⟩
        clear hK K
        try simp only [Act.put, List.getElem_toArray, List.getElem_cons_succ, List.getElem_cons_zero, List.setIfInBounds_toArray, List.set_cons_zero, List.set_cons_succ]
        refine wpAnyH_take (i := 12) (v := ?_) rfl (by kernel_rfl) (by kernel_rfl) (by kernel_rfl) (fun _ _ _ h => h) (Or.inl ⟨by first | kernel_rfl | rfl, ?_⟩) (by assumption) ?_
        rotate_left
        · intro w hSw; (try dsimp only at hSw); (try go_split_ands); go_simp; first | done | with_reducible rfl
        try simp only [Act.put, List.getElem_toArray, List.getElem_cons_succ, List.getElem_cons_zero, List.setIfInBounds_toArray, List.set_cons_zero, List.set_cons_succ]
        refine wpAnyH_take (i := 13) (v := ?_) rfl (by kernel_rfl) (by kernel_rfl) (by kernel_rfl) (fun _ _ _ h => h) (Or.inl ⟨by first | kernel_rfl | rfl, ?_⟩) (by assumption) ?_
        rotate_left
        · intro w hSw; (try dsimp only at hSw); (try go_split_ands); go_simp; first | done | with_reducible rfl
        try simp only [Act.put, List.getElem_toArray, List.getElem_cons_succ, List.getElem_cons_zero, List.setIfInBounds_toArray, List.set_cons_zero, List.set_cons_succ]
        refine wpAnyH_take (i := 14) (v := ?_) rfl (by kernel_rfl) (by kernel_rfl) (by kernel_rfl) (fun _ _ _ h => h) (Or.inl ⟨by first | kernel_rfl | rfl, ?_⟩) (by assumption) ?_
        rotate_left
        · intro w hSw; (try dsimp only at hSw); (try go_split_ands); go_simp; first | done | with_reducible rfl
        try simp only [Act.put, List.getElem_toArray, List.getElem_cons_succ, List.getElem_cons_zero, List.setIfInBounds_toArray, List.set_cons_zero, List.set_cons_succ]
        refine wpAnyH_take (i := 15) (v := undef) rfl (by kernel_rfl) (by kernel_rfl) (by kernel_rfl) (fun _ _ _ h => h) (Or.inr ⟨by first | kernel_rfl | rfl, rfl⟩) (by assumption) ?_
        try simp only [Act.put, List.getElem_toArray, List.getElem_cons_succ, List.getElem_cons_zero, List.setIfInBounds_toArray, List.set_cons_zero, List.set_cons_succ]
        refine wpAnyH_take (i := 16) (v := undef) rfl (by kernel_rfl) (by kernel_rfl) (by kernel_rfl) (fun _ _ _ h => h) (Or.inr ⟨by first | kernel_rfl | rfl, rfl⟩) (by assumption) ?_
        try simp only [Act.put, List.getElem_toArray, List.getElem_cons_succ, List.getElem_cons_zero, List.setIfInBounds_toArray, List.set_cons_zero, List.set_cons_succ]
        refine wpAnyH_take (i := 17) (v := undef) rfl (by kernel_rfl) (by kernel_rfl) (by kernel_rfl) (fun _ _ _ h => h) (Or.inr ⟨by first | kernel_rfl | rfl, rfl⟩) (by assumption) ?_
        try simp only [Act.put, List.getElem_toArray, List.getElem_cons_succ, List.getElem_cons_zero, List.setIfInBounds_toArray, List.set_cons_zero, List.set_cons_succ]
        refine wpAnyH_take (i := 18) (v := undef) rfl (by kernel_rfl) (by kernel_rfl) (by kernel_rfl) (fun _ _ _ h => h) (Or.inr ⟨by first | kernel_rfl | rfl, rfl⟩) (by assumption) ?_
        try simp only [Act.put, List.getElem_toArray, List.getElem_cons_succ, List.getElem_cons_zero, List.setIfInBounds_toArray, List.set_cons_zero, List.set_cons_succ]
        refine wpAnyH_take (i := 19) (v := undef) rfl (by kernel_rfl) (by kernel_rfl) (by kernel_rfl) (fun _ _ _ h => h) (Or.inr ⟨by first | kernel_rfl | rfl, rfl⟩) (by assumption) ?_
        try simp only [Act.put, List.getElem_toArray, List.getElem_cons_succ, List.getElem_cons_zero, List.setIfInBounds_toArray, List.set_cons_zero, List.set_cons_succ]
        refine wpAnyH_take (i := 20) (v := undef) rfl (by kernel_rfl) (by kernel_rfl) (by kernel_rfl) (fun _ _ _ h => h) (Or.inr ⟨by first | kernel_rfl | rfl, rfl⟩) (by assumption) ?_
        try simp only [Act.put, List.getElem_toArray, List.getElem_cons_succ, List.getElem_cons_zero, List.setIfInBounds_toArray, List.set_cons_zero, List.set_cons_succ]
        refine wpAnyH_take (i := 21) (v := undef) rfl (by kernel_rfl) (by kernel_rfl) (by kernel_rfl) (fun _ _ _ h => h) (Or.inr ⟨by first | kernel_rfl | rfl, rfl⟩) (by assumption) ?_
        try simp only [Act.put, List.getElem_toArray, List.getElem_cons_succ, List.getElem_cons_zero, List.setIfInBounds_toArray, List.set_cons_zero, List.set_cons_succ]
        refine wpAnyH_take (i := 22) (v := undef) rfl (by kernel_rfl) (by kernel_rfl) (by kernel_rfl) (fun _ _ _ h => h) (Or.inr ⟨by first | kernel_rfl | rfl, rfl⟩) (by assumption) ?_
        try simp only [Act.put, List.getElem_toArray, List.getElem_cons_succ, List.getElem_cons_zero, List.setIfInBounds_toArray, List.set_cons_zero, List.set_cons_succ]
        refine wpAnyH_take (i := 23) (v := undef) rfl (by kernel_rfl) (by kernel_rfl) (by kernel_rfl) (fun _ _ _ h => h) (Or.inr ⟨by first | kernel_rfl | rfl, rfl⟩) (by assumption) ?_
        try simp only [Act.put, List.getElem_toArray, List.getElem_cons_succ, List.getElem_cons_zero, List.setIfInBounds_toArray, List.set_cons_zero, List.set_cons_succ]
        refine wpAnyH_take (i := 24) (v := undef) rfl (by kernel_rfl) (by kernel_rfl) (by kernel_rfl) (fun _ _ _ h => h) (Or.inr ⟨by first | kernel_rfl | rfl, rfl⟩) (by assumption) ?_
        try simp only [Act.put, List.getElem_toArray, List.getElem_cons_succ, List.getElem_cons_zero, List.setIfInBounds_toArray, List.set_cons_zero, List.set_cons_succ]
        refine wpAnyH_take (i := 25) (v := undef) rfl (by kernel_rfl) (by kernel_rfl) (by kernel_rfl) (fun _ _ _ h => h) (Or.inr ⟨by first | kernel_rfl | rfl, rfl⟩) (by assumption) ?_
        try simp only [Act.put, List.getElem_toArray, List.getElem_cons_succ, List.getElem_cons_zero, List.setIfInBounds_toArray, List.set_cons_zero, List.set_cons_succ]
        refine wpAnyH_take (i := 26) (v := ?_) rfl (by kernel_rfl) (by kernel_rfl) (by kernel_rfl) (fun _ _ _ h => h) (Or.inl ⟨by first | kernel_rfl | rfl, ?_⟩) (by assumption) ?_
        rotate_left
        · intro w hSw; (try dsimp only at hSw); (try go_split_ands); go_simp; first | done | with_reducible rfl
        try simp only [Act.put, List.getElem_toArray, List.getElem_cons_succ, List.getElem_cons_zero, List.setIfInBounds_toArray, List.set_cons_zero, List.set_cons_succ]
        refine wpAnyH_done (by kernel_rfl) ?_ _
        refine NoPanic.normal ?_
        go_wp2
        go_roundw
        case rel => exact ⟨k + 1, by omega, by go_num, hgz, NX.out⟩
        case measure => simp [intOf]; omega
    · obtain rfl : k = 16 := by omega
      have g0 : decide (((16 : Nat) : Int) < 16) = false := decide_eq_false (by omega)
      have HR := Lib.hid (turn_none h0).1
      clear h0
      go_wp2
      go_ret
      exact ⟨by rw [HR.out]; rfl, hG4.trans hg⟩

theorem rstands_call {rv : Value} {f : Nat → Nat} {w : World} {X : Nat → Prop} (hr : RefF rv f w X) (s : ByteArray) (hs : s.size ≤ 100) :
    Calls Try.prog 177 #[rv, .string s] w fun e w' => e = .returned (.int .i64 (ixS (standS f s))) ∧ Grow w w' := by
  by_cases hok : okN s = true
  · have hp := fun w => pack65 s w
    have e1 : standS f s = standN f (hN s) (n0 s) (n1 s) := if_pos hok
    rw [hok] at hp
    rw [e1]
    exact rstands_ok hr s (hN s) (n0 s) (n1 s) hp (fun w => rway_call w s hs)
  · have e1 : standS f s = 0 := if_neg hok
    rw [e1]
    exact rstands_bad hr s hs (by simpa using hok)
end Go.Proofs.Ck

namespace Go.Proofs.Ck
open Go Go.RowKit

theorem ixS_neg {a : Nat} : ixS a < 0 ↔ a = 0 := by
  unfold ixS
  split <;> omega
theorem stand_ix (f : Nat → Nat) (s : ByteArray) : standS f s = 0 ∧ ixS (standS f s) = -1 ∨ ∃ j : Nat, j < 16 ∧ ixS (standS f s) = (j : Int) ∧ standS f s = sl j := by
  rcases standS_cases f s with h | ⟨_, j, hj, e, _⟩
  · exact .inl ⟨h, by rw [h]; rfl⟩
  · exact .inr ⟨j, hj, by rw [e, ixS_sl, Nat.mod_eq_of_lt hj], e⟩
theorem place_ix (f : Nat → Nat) (s : ByteArray) : placeS f s = 0 ∧ ixS (placeS f s) = -1 ∨ ∃ j : Nat, j < 16 ∧ ixS (placeS f s) = (j : Int) ∧ placeS f s = sl j := by
  rcases placeS_cases f s with h | ⟨j, hj, e, _⟩
  · exact .inl ⟨h, by rw [h]; rfl⟩
  · exact .inr ⟨j, hj, by rw [e, ixS_sl, Nat.mod_eq_of_lt hj], e⟩

set_option maxRecDepth 100000 in
set_option maxHeartbeats 1000000 in
theorem rroom_call {rv : Value} {f : Nat → Nat} {w : World} {X : Nat → Prop} (hr : RefF rv f w X) (s : ByteArray) (hs : s.size ≤ 100) :
    Calls Try.prog 130 #[rv, .string s] w fun e w' => e = .returned (.int .i64 (roomE f s : Int)) ∧ Grow w w' := by
  obtain ⟨A, n, c', B, m, d, rfl⟩ := hr.agg
  have hga : Grow w (w.alloc (.cells #[.slice A n c', .slice B m d] 67)) := (Below.refl _ _).alloc (Nat.le_refl _) _
  have hB := World.alloc_heap_new w (.cells #[.slice A n c', .slice B m d] 67)
  have h1 := hr.grow hga
  have hp := fun w => pack65 s w
  have hst := fun w' (hg : Grow (w.alloc (.cells #[.slice A n c', .slice B m d] 67)) w') => rstands_call (h1.grow hg) s hs
  have hpl := fun w' (hg : Grow (w.alloc (.cells #[.slice A n c', .slice B m d] 67)) w') => rplace_call (h1.grow hg) s hs
  have hx := ixS_neg (a := standS f s)
  have hy := ixS_neg (a := placeS f s)
  have hE : roomE f s = if okN s = true then if standS f s = 0 then if placeS f s = 0 then 9 else 0 else 7 else 8 := rfl
  rw [hE]
  generalize okN s = ok at *
  generalize n0 s = p0 at *
  generalize n1 s = p1 at *
  generalize ixS (standS f s) = x at *
  generalize ixS (placeS f s) = y at *
  generalize standS f s = a at *
  generalize placeS f s = b at *
  clear hE hr h1
  cases ok with
  | false =>
    rw [if_neg (by simp)]
    clear hst hpl hx hy
    go_enter Try.func130, Try.ntmps130
    go_wp2_with fail
    generalize w.alloc (.cells #[.slice A n c', .slice B m d] 67) = w1 at *
    refine (hp w1).mono ?_
    rintro e w2 ⟨rfl, hg2⟩
    have hg3 := hga.trans (hg2.trans ((Below.refl _ _).alloc (Nat.le_refl _) (.cells #[.int .u64 (p0 : Int), .int .u64 (p1 : Int)] 37)))
    clear hp hga
    go_wp2
    go_ret
    exact ⟨rfl, hg3⟩
  | true =>
    rw [if_pos rfl]
    by_cases ha : a = 0
    · rw [if_pos ha]
      have t0 : decide ((0 : Int) ≤ x) = false := decide_eq_false (by have := hx.2 ha; omega)
      obtain ⟨ty, t1⟩ : ∃ t, decide (y < 0) = t := ⟨_, rfl⟩
      have hR : (if b = 0 then 9 else 0 : Nat) = if ty = true then 9 else 0 := by
        by_cases hb : b = 0
        · rw [if_pos hb, ← t1, decide_eq_true (hy.2 hb)]; rfl
        · rw [if_neg hb, ← t1, decide_eq_false (fun hh => hb (hy.1 hh))]; rfl
      rw [hR]
      clear hR hx hy ha
      cases ty <;>
      · go_enter Try.func130, Try.ntmps130
        go_wp2_with fail
        generalize w.alloc (.cells #[.slice A n c', .slice B m d] 67) = w1 at *
        refine (hp w1).mono ?_
        rintro e w2 ⟨rfl, hg2⟩
        have hgz := hg2.trans ((Below.refl _ _).alloc (Nat.le_refl _) (.cells #[.int .u64 (p0 : Int), .int .u64 (p1 : Int)] 37))
        have hBz := hgz.heap hB
        have b0 := (cell_of_heap hBz 0)
        have b1 := (cell_of_heap hBz 1)
        clear hp hg2
        go_wp2_with fail
        generalize w2.alloc (.cells #[.int .u64 (p0 : Int), .int .u64 (p1 : Int)] 37) = w3 at *
        refine (hst _ hgz).mono ?_
        rintro e w4 ⟨rfl, hg4⟩
        replace hgz := hgz.trans hg4
        clear b0 b1 hBz hst hg4
        have hBz := hgz.heap hB
        have b0 := (cell_of_heap hBz 0)
        have b1 := (cell_of_heap hBz 1)
        go_wp2_with fail
        refine (hpl _ hgz).mono ?_
        rintro e w5 ⟨rfl, hg5⟩
        replace hgz := hgz.trans hg5
        clear b0 b1 hBz hpl hg5
        go_wp2
        go_ret
        exact ⟨rfl, hga.trans hgz⟩
    · rw [if_neg ha]
      have t0 : decide ((0 : Int) ≤ x) = true := decide_eq_true (by have := mt hx.1 ha; omega)
      clear hx hy ha hpl
      go_enter Try.func130, Try.ntmps130
      go_wp2_with fail
      generalize w.alloc (.cells #[.slice A n c', .slice B m d] 67) = w1 at *
      refine (hp w1).mono ?_
      rintro e w2 ⟨rfl, hg2⟩
      have hgz := hg2.trans ((Below.refl _ _).alloc (Nat.le_refl _) (.cells #[.int .u64 (p0 : Int), .int .u64 (p1 : Int)] 37))
      have hBz := hgz.heap hB
      have b0 := (cell_of_heap hBz 0)
      have b1 := (cell_of_heap hBz 1)
      clear hp hg2
      go_wp2_with fail
      generalize w2.alloc (.cells #[.int .u64 (p0 : Int), .int .u64 (p1 : Int)] 37) = w3 at *
      refine (hst _ hgz).mono ?_
      rintro e w4 ⟨rfl, hg4⟩
      replace hgz := hgz.trans hg4
      clear b0 b1 hBz hst hg4
      go_wp2
      go_ret
      exact ⟨rfl, hga.trans hgz⟩

set_option maxRecDepth 100000 in
set_option maxHeartbeats 1000000 in
theorem rfind_call {rv : Value} {f : Nat → Nat} {w : World} {X : Nat → Prop} (hr : RefF rv f w X) (s : ByteArray) (hs : s.size ≤ 100) :
    Calls Try.prog 128 #[rv, .string s] w fun e w' => e = .returned (.tuple #[.int .u64 (findV f s : Int), .bool (findB f s)]) ∧ Grow w w' := by
  obtain ⟨A, n, c', B, m, d, rfl⟩ := hr.agg
  have hga : Grow w (w.alloc (.cells #[.slice A n c', .slice B m d] 67)) := (Below.refl _ _).alloc (Nat.le_refl _) _
  have hB := World.alloc_heap_new w (.cells #[.slice A n c', .slice B m d] 67)
  have h1 := hr.grow hga
  have hst := rstands_call h1 s hs
  unfold findV findB
  rcases stand_ix f s with ⟨h0, hx⟩ | ⟨j, hj, hx, h0⟩
  · rw [hx] at hst
    rw [if_pos h0, decide_eq_false (fun hh => hh h0)]
    clear h0 hx hr h1
    go_enter Try.func128, Try.ntmps128
    go_wp2_with fail
    generalize w.alloc (.cells #[.slice A n c', .slice B m d] 67) = w1 at *
    refine hst.mono ?_
    rintro e w2 ⟨rfl, hg2⟩
    clear hst
    go_wp2
    refine bodyPost_ret (results_tmp2 rfl _ _ _) rfl ?_
    exact ⟨rfl, hga.trans hg2⟩
  · rw [hx] at hst
    have hne : standS f s ≠ 0 := by rw [h0]; exact sl_pos _
    rw [if_neg hne, decide_eq_true hne, h0]
    have hld := fun w' (hg : Grow (w.alloc (.cells #[.slice A n c', .slice B m d] 67)) w') => (h1.grow hg).load (sl j + 16) (by unfold sl; omega)
    have hat := fun w => rat_call w j hj
    have hal : sl j < 3776 := by unfold sl; omega
    clear h0 hx hr h1 hne
    generalize f (sl j + 16) = y at *
    generalize sl j = a at *
    have e16 : IntKind.u64.wrap ((a : Int) + 16) = ((a + 16 : Nat) : Int) := by rw [IntKind.wrap_u64]; omega
    have t0 : decide ((j : Int) < 0) = false := decide_eq_false (by omega)
    go_enter Try.func128, Try.ntmps128
    go_wp2_with fail
    generalize w.alloc (.cells #[.slice A n c', .slice B m d] 67) = w1 at *
    refine hst.mono ?_
    rintro e w2 ⟨rfl, hg2⟩
    have hBz := hg2.heap hB
    have b0 : w2.cell? ⟨w.heap.size, 0, none⟩ = some (.slice A n c') := by rw [cell_of_heap hBz]; rfl
    have b1 : w2.cell? ⟨w.heap.size, 1, none⟩ = some (.slice B m d) := by rw [cell_of_heap hBz]; rfl
    clear hst
    go_wp2
    go_region_held3 (fun w' => w'.cell? ⟨w.heap.size, 0, none⟩ = some (.slice A n c') ∧ w'.cell? ⟨w.heap.size, 1, none⟩ = some (.slice B m d) ∧ Grow w1 w')
      (first | exact ⟨b0, b1, hg2.drew⟩ | assumption | exact ⟨(cell_of_heap (hgz.heap hB) 0).trans rfl, (cell_of_heap (hgz.heap hB) 1).trans rfl, hgz⟩)
      (first
        | (go_at_call 178; go_split_ands; refine Calls.mono (hat _) ?_; rintro e wn ⟨rfl, rfl⟩)
        | (go_at_call 157; go_split_ands; refine Calls.mono (hld _ (by assumption)) ?_; rintro e wn ⟨rfl, hgn⟩; have hgz := Grow.trans (a := w1) (by assumption) hgn))
    clear b0 b1 hld hat
    go_wp2
    refine bodyPost_ret (results_tmp2 rfl _ _ _) rfl ?_
    exact ⟨rfl, hga.trans hgz⟩
end Go.Proofs.Ck

namespace Go.Proofs.Ck
open Go Go.RowKit

/-- What the document's Put and Drop answer. -/
def RDidB (w : World) (X : Nat → Prop) (σ : St) (b : Bool) (e : Ending) (w' : World) : Prop := ∃ rv', e = .returned (.tuple #[rv', .bool b]) ∧ RefS rv' σ w' X ∧ Grow w w'
theorem refS_set {w : World} {q : Nat} {X : Nat → Prop} {σ : St} {rv a b : Value} (hr : RefS rv σ w X) (hq : X q) : RefS rv σ ((w.setCell ⟨q, 0, none⟩ a).setCell ⟨q, 1, none⟩ b) X := by
  have ho : Only (fun x => x = q) w ((w.setCell ⟨q, 0, none⟩ a).setCell ⟨q, 1, none⟩ b) :=
    Only.setCell (S := fun x => x = q) (p := ⟨q, 1, none⟩) (Only.setCell (S := fun x => x = q) (p := ⟨q, 0, none⟩) (Only.refl _ _) rfl _) rfl _
  exact stable_refS _ _ _ _ ⟨ho.mono fun k _ hk => by subst hk; exact hq, fun b hb => .inl hb⟩ hr
theorem heap_set2 {w : World} {q k : Nat} {o : Obj} {a b : Value} (hk : w.heap[k]? = some o) (hq : k ≠ q) : ((w.setCell ⟨q, 0, none⟩ a).setCell ⟨q, 1, none⟩ b).heap[k]? = some o :=
  (Below.heap_setCell _ _ _ _ hq).trans ((Below.heap_setCell _ _ _ _ hq).trans hk)
theorem heap_same2 {w : World} {q : Nat} {a b u0 u1 : Value} (hk : w.heap[q]? = some (.cells #[u0, u1] 67 (0, 0))) : ((w.setCell ⟨q, 0, none⟩ a).setCell ⟨q, 1, none⟩ b).heap[q]? = some (.cells #[a, b] 67 (0, 0)) :=
  heap_setCell_row (heap_setCell_row hk (i := 0) _) (i := 1) _
theorem grow_set2 {w w2 : World} {q : Nat} {a b : Value} (hg : Grow w w2) (hq : w.heap.size ≤ q) : Grow w ((w2.setCell ⟨q, 0, none⟩ a).setCell ⟨q, 1, none⟩ b) :=
  (hg.setCell hq _).setCell hq _

set_option maxRecDepth 100000 in
set_option maxHeartbeats 1000000 in
theorem rdropS {rv : Value} {σ : St} {w : World} {X : Nat → Prop} (h : RefS rv σ w X) (hX : ∀ b, X b → b < w.heap.size) (hf : Fine σ) (s : ByteArray) (hs : s.size ≤ 100) :
    Calls Try.prog 174 #[rv, .string s] w (RDidB w X (dropS σ s) (findB σ.load s)) := by
  obtain ⟨A, n, c', B, m, d, rfl⟩ := h.agg
  obtain ⟨wa, hwa⟩ : ∃ wa, (w.alloc (.cells #[.slice A n c', .slice B m d] 67)).alloc (.cells #[.slice none 0 0, .slice none 0 0] 67) = wa := ⟨_, rfl⟩
  have hga : Grow w wa := by rw [← hwa]; exact ((Below.refl _ _).alloc (Nat.le_refl _) _).alloc (by simp) _
  have hB : wa.heap[w.heap.size]? = some (.cells #[.slice A n c', .slice B m d] 67 (0, 0)) := by
    rw [← hwa]; exact (Below.heap_alloc _ _ _ (by simp)).trans (World.alloc_heap_new w _)
  have hT : wa.heap[w.heap.size + 1]? = some (.cells #[.slice none 0 0, .slice none 0 0] 67 (0, 0)) := by
    have := World.alloc_heap_new (w.alloc (.cells #[.slice A n c', .slice B m d] 67)) (.cells #[.slice none 0 0, .slice none 0 0] 67)
    rw [World.size_alloc] at this
    rw [← hwa]; exact this
  have h1 : RefS (.agg #[.slice A n c', .slice B m d]) σ wa (fun b => X b ∨ b = w.heap.size + 1) := stable_refS _ _ _ _ ⟨Only.of_below hga, fun b hb => by
    rcases hb with hb | hb
    · exact .inl hb
    · exact .inr (by omega)⟩ h
  have hX1 : ∀ b, (X b ∨ b = w.heap.size + 1) → b < wa.heap.size := fun b hb => by
    rcases hb with hb | hb
    · exact Nat.lt_of_lt_of_le (hX b hb) hga.size
    · rw [hb]; exact lt_of_heap hT
  have hst := rstands_call (h1.ref hf) s hs
  have a0 : wa.cell? ⟨w.heap.size, 0, none⟩ = some (.slice A n c') := by rw [cell_of_heap hB]; rfl
  have a1 : wa.cell? ⟨w.heap.size, 1, none⟩ = some (.slice B m d) := by rw [cell_of_heap hB]; rfl
  rcases stand_ix σ.load s with ⟨h0, hx⟩ | ⟨j, hj, hx, h0⟩
  · rw [hx] at hst
    have e1 : dropS σ s = σ := if_pos h0
    have e2 : findB σ.load s = false := decide_eq_false (fun hh => hh h0)
    rw [e1, e2]
    clear h0 hx h e1 e2
    go_enter Try.func174, Try.ntmps174
    go_wp2_with fail
    refine hst.mono ?_
    rintro e w3 ⟨rfl, hgF⟩
    have hB2 := hgF.heap hB
    have hT2 := hgF.heap hT
    have h2 := h1.grow hgF
    have hgz := hga.trans hgF
    clear hst hB hT h1 hX1 a0 a1
    have b0 : w3.cell? ⟨w.heap.size, 0, none⟩ = some (.slice A n c') := by rw [cell_of_heap hB2]; rfl
    have b1 : w3.cell? ⟨w.heap.size, 1, none⟩ = some (.slice B m d) := by rw [cell_of_heap hB2]; rfl
    have t0 : w3.cell? ⟨w.heap.size + 1, 0, none⟩ = some (.slice none 0 0) := by rw [cell_of_heap hT2]; rfl
    have t1 : w3.cell? ⟨w.heap.size + 1, 1, none⟩ = some (.slice none 0 0) := by rw [cell_of_heap hT2]; rfl
    have f0 := frozen_of_heap hT2 0
    have f1 := frozen_of_heap hT2 1
    obtain ⟨r1, r2, r3⟩ := fin67 hT2 h2 hgz (show w.heap.size ≤ w.heap.size + 1 by omega)
    have R1 := Lib.hid r1
    have R2 := Lib.hid r2
    have R3 := Lib.hid r3
    clear r1 r2 r3 h2 hgz hB2 hT2
    go_wp2
    exact results_cell_tmp67 rfl rfl rfl R1.out rfl ⟨_, rfl, R2.out, R3.out⟩
  · rw [hx] at hst
    have hne : standS σ.load s ≠ 0 := by rw [h0]; exact sl_pos _
    have e1 : dropS σ s = σ.store (sl j + 16) 1 := by unfold dropS; rw [if_neg hne, h0]
    have e2 : findB σ.load s = true := decide_eq_true hne
    rw [e1, e2]
    have hat := fun w => rat_call w j hj
    have hal : sl j < 3776 := by unfold sl; omega
    have hsto := fun w' (hg : Grow wa w') => rstoreS (h1.grow hg) (fun b hb => Nat.lt_of_lt_of_le (hX1 b hb) hg.size) hf (sl j + 16) 1 (by omega)
    clear h0 hx h e1 e2 hne hX1
    generalize σ.store (sl j + 16) 1 = τ at *
    generalize sl j = a at *
    have e16 : IntKind.u64.wrap ((a : Int) + 16) = ((a + 16 : Nat) : Int) := by rw [IntKind.wrap_u64]; omega
    have tj : decide ((j : Int) < 0) = false := decide_eq_false (by omega)
    go_enter Try.func174, Try.ntmps174
    go_wp2_with fail
    refine hst.mono ?_
    rintro e w3 ⟨rfl, hgF⟩
    have b0 : w3.cell? ⟨w.heap.size, 0, none⟩ = some (.slice A n c') := by rw [cell_of_heap (hgF.heap hB)]; rfl
    have b1 : w3.cell? ⟨w.heap.size, 1, none⟩ = some (.slice B m d) := by rw [cell_of_heap (hgF.heap hB)]; rfl
    clear hst a0 a1
    go_wp2
    refine region_plain (fun w' => w'.cell? ⟨w.heap.size, 0, none⟩ = some (.slice A n c') ∧ w'.cell? ⟨w.heap.size, 1, none⟩ = some (.slice B m d)) (by kernel_rfl) ⟨b0, b1⟩ (fun hHeld => ?_)
    refine wpAnyH_take (i := 0) (v := ?_) rfl (by kernel_rfl) (by kernel_rfl) (by kernel_rfl) (fun _ _ _ h => h) (Or.inl ⟨by first | kernel_rfl | rfl, ?_⟩) (by assumption) ?_
    rotate_left
    · intro w hSw; (try dsimp only at hSw); (try go_split_ands); go_simp; first | done | with_reducible rfl
    try simp only [Act.put, List.getElem_toArray, List.getElem_cons_zero, List.setIfInBounds_toArray, List.set_cons_zero, List.set_cons_succ]
    refine wpAnyH_take (i := 1) (v := ?_) rfl (by kernel_rfl) (by kernel_rfl) (by kernel_rfl) (fun _ _ _ h => h) (Or.inl ⟨by first | kernel_rfl | rfl, ?_⟩) (by assumption) ?_
    rotate_left
    · intro w hSw; (try dsimp only at hSw); (try go_split_ands); go_simp; first | done | with_reducible rfl
    try simp only [Act.put, List.getElem_toArray, List.getElem_cons_succ, List.getElem_cons_zero, List.setIfInBounds_toArray, List.set_cons_zero, List.set_cons_succ]
    refine wpAnyH_ready (rs := [2]) (by kernel_rfl) (by simp) ?_
    refine AllReadyH.cons rfl (fun K hK => ?_) AllReadyH.nil
    go_simp
    go_at_call 178
    refine Calls.mono (hat _) ?_
    rintro e w5 ⟨rfl, rfl⟩
    go_wp2_with fail
    refine hK.out _ _ ?_ (fun hHeld => ?_)
    · exact ⟨b0, b1⟩
    clear hK K
    try simp only [Act.put, List.getElem_toArray, List.getElem_cons_succ, List.getElem_cons_zero, List.setIfInBounds_toArray, List.set_cons_zero, List.set_cons_succ]
    refine wpAnyH_take (i := 3) (v := ?_) rfl (by kernel_rfl) (by kernel_rfl) (by kernel_rfl) (fun _ _ _ h => h) (Or.inl ⟨by first | kernel_rfl | rfl, ?_⟩) (by assumption) ?_
    rotate_left
    · intro w hSw; (try dsimp only at hSw); (try go_split_ands); go_simp; first | done | with_reducible rfl
    try simp only [Act.put, List.getElem_toArray, List.getElem_cons_succ, List.getElem_cons_zero, List.setIfInBounds_toArray, List.set_cons_zero, List.set_cons_succ]
    refine wpAnyH_ready (rs := [4]) (by kernel_rfl) (by simp) ?_
    refine AllReadyH.cons rfl (fun K hK => ?_) AllReadyH.nil
    go_simp
    go_at_call 156
    refine Calls.mono (show Calls _ _ #[_, _, .int .u64 1] _ _ from hsto _ hgF.drew) ?_
    rintro e w6 ⟨rv', rfl, hR6, hg6⟩
    obtain ⟨A6, n6, c6, B6, m6, d6, rfl⟩ := hR6.agg
    have hgz := Below.trans (Below.drew hgF) (Below.mono hg6 (Below.drew hgF).size)
    go_wp2_with fail
    have hB6 := Grow.heap hgz hB
    have hT6 := Grow.heap hgz hT
    refine hK.out _ _ ?_ (fun hHeld => ?_)
    · exact ⟨(cell_of_heap hB6 0).trans rfl, (cell_of_heap hB6 1).trans rfl⟩
    clear hK K
    try simp only [Act.put, List.getElem_toArray, List.getElem_cons_succ, List.getElem_cons_zero, List.setIfInBounds_toArray, List.set_cons_zero, List.set_cons_succ]
    have t0 : w6.cell? ⟨w.heap.size + 1, 0, none⟩ = some (.slice none 0 0) := by rw [cell_of_heap hT6]; rfl
    have t1 : w6.cell? ⟨w.heap.size + 1, 1, none⟩ = some (.slice none 0 0) := by rw [cell_of_heap hT6]; rfl
    have f0 := frozen_of_heap hT6 0
    have f1 := frozen_of_heap hT6 1
    have hB7 := heap_set2 (a := .slice A6 n6 c6) (b := .slice B6 m6 d6) hB6 (show w.heap.size ≠ w.heap.size + 1 by omega)
    obtain ⟨r1, r2, r3⟩ := fin67 hT6 hR6 (hga.trans hgz) (show w.heap.size ≤ w.heap.size + 1 by omega)
    have R1 := Lib.hid r1
    have R2 := Lib.hid r2
    have R3 := Lib.hid r3
    clear r1 r2 r3
    refine wpAnyH_ready (rs := [5]) (by kernel_rfl) (by simp) ?_
    refine AllReadyH.cons rfl (fun K hK => ?_) AllReadyH.nil
    go_simp
    refine hK.out _ _ ?_ (fun hHeld => ?_)
    · exact ⟨(cell_of_heap hB7 0).trans rfl, (cell_of_heap hB7 1).trans rfl⟩
    clear hK K
    try simp only [Act.put, List.getElem_toArray, List.getElem_cons_succ, List.getElem_cons_zero, List.setIfInBounds_toArray, List.set_cons_zero, List.set_cons_succ]
    refine wpAnyH_take (i := 6) (v := ?_) rfl (by kernel_rfl) (by kernel_rfl) (by kernel_rfl) (fun _ _ _ h => h) (Or.inl ⟨by first | kernel_rfl | rfl, ?_⟩) (by assumption) ?_
    rotate_left
    · intro w hSw; (try dsimp only at hSw); (try go_split_ands); go_simp; first | done | with_reducible rfl
    try simp only [Act.put, List.getElem_toArray, List.getElem_cons_succ, List.getElem_cons_zero, List.setIfInBounds_toArray, List.set_cons_zero, List.set_cons_succ]
    refine wpAnyH_done (by kernel_rfl) ?_ _
    refine NoPanic.normal ?_
    clear hB7 hB6 hT6 hsto hat hg6 hgz hR6
    go_wp2
    exact results_cell_tmp67 rfl rfl rfl R1.out rfl ⟨_, rfl, R2.out, R3.out⟩

theorem refS_less {w : World} {X Y : Nat → Prop} {σ : St} {rv : Value} (h : RefS rv σ w fun b => X b ∨ Y b) : RefS rv σ w X :=
  stable_refS _ _ _ _ (Next.less fun _ hb => .inl hb) h
theorem Ctx.fineS {base : Nat} {M0 : Nat → Prop} {w0 w : World} {v : Value} {σ : St} {bx : List Bx} {K : World → (Nat → Prop) → Prop} (h : Ctx base M0 w0 w v σ bx K) (hW : σ.W.length = 600) : FineS σ := by
  obtain ⟨M, tb, mb, T, sb, bb, cap, cs, rfl, rfl, h3⟩ := h.tx
  refine ⟨hW, fun k hk => ?_, h3.nodup⟩
  obtain ⟨q, hq, rfl⟩ := List.mem_map.1 hk
  have := (h3.dom q hq).1
  rwa [hW] at this

set_option maxRecDepth 100000 in
set_option maxHeartbeats 4000000 in
theorem rputS {rv : Value} {σ : St} {w : World} {X : Nat → Prop} (h : RefS rv σ w X) (hX : ∀ b, X b → b < w.heap.size) (hf : FineS σ) (s : ByteArray) (hs : s.size ≤ 100) (off : Nat) :
    Calls Try.prog 175 #[rv, .string s, .int .u64 (off : Int)] w (RDid w X (putS σ s off) (putE σ.load s off)) := by
  obtain ⟨A, n, c', B, m, d, rfl⟩ := h.agg
  obtain ⟨wa, hwa⟩ : ∃ wa, (w.alloc (.cells #[.slice A n c', .slice B m d] 67)).alloc (.cells #[.slice none 0 0, .slice none 0 0] 67) = wa := ⟨_, rfl⟩
  have hga : Grow w wa := by rw [← hwa]; exact ((Below.refl _ _).alloc (Nat.le_refl _) _).alloc (by simp) _
  have hB : wa.heap[w.heap.size]? = some (.cells #[.slice A n c', .slice B m d] 67 (0, 0)) := by
    rw [← hwa]; exact (Below.heap_alloc _ _ _ (by simp)).trans (World.alloc_heap_new w _)
  have hT : wa.heap[w.heap.size + 1]? = some (.cells #[.slice none 0 0, .slice none 0 0] 67 (0, 0)) := by
    have := World.alloc_heap_new (w.alloc (.cells #[.slice A n c', .slice B m d] 67)) (.cells #[.slice none 0 0, .slice none 0 0] 67)
    rw [World.size_alloc] at this
    rw [← hwa]; exact this
  have h1 : RefS (.agg #[.slice A n c', .slice B m d]) σ wa (fun b => X b ∨ b = w.heap.size ∨ b = w.heap.size + 1) := stable_refS _ _ _ _ ⟨Only.of_below hga, fun b hb => by
    rcases hb with hb | hb
    · exact .inl hb
    · exact .inr (by omega)⟩ h
  have hX1 : ∀ b, (X b ∨ b = w.heap.size ∨ b = w.heap.size + 1) → b < wa.heap.size := fun b hb => by
    rcases hb with hb | hb | hb
    · exact Nat.lt_of_lt_of_le (hX b hb) hga.size
    · rw [hb]; exact lt_of_heap hB
    · rw [hb]; exact lt_of_heap hT
  have hrm := rroom_call (h1.ref hf.fine) s hs
  have a0 : wa.cell? ⟨w.heap.size, 0, none⟩ = some (.slice A n c') := by rw [cell_of_heap hB]; rfl
  have a1 : wa.cell? ⟨w.heap.size, 1, none⟩ = some (.slice B m d) := by rw [cell_of_heap hB]; rfl
  by_cases hE : roomE σ.load s = 0
  · have hP : putE σ.load s off = if off < 2 then 1 else 0 := by unfold putE; rw [if_pos hE]
    rw [hE] at hrm
    by_cases ho2 : off < 2
    · have hS : putS σ s off = σ := by unfold putS; rw [hP, if_pos ho2]; rfl
      rw [hP, if_pos ho2, hS]
      have tlt : decide ((off : Int) < 2) = true := decide_eq_true (by omega)
      clear hP hS hE h ho2
      go_enter Try.func175, Try.ntmps175
      go_wp2_with fail
      refine hrm.mono ?_
      rintro e w3 ⟨rfl, hgF⟩
      have hB2 := hgF.heap hB
      have hT2 := hgF.heap hT
      have h2 := h1.grow hgF
      have hgz := hga.trans hgF
      clear hrm hB hT h1 hX1 a0 a1
      have b0 : w3.cell? ⟨w.heap.size, 0, none⟩ = some (.slice A n c') := by rw [cell_of_heap hB2]; rfl
      have b1 : w3.cell? ⟨w.heap.size, 1, none⟩ = some (.slice B m d) := by rw [cell_of_heap hB2]; rfl
      have t0 : w3.cell? ⟨w.heap.size + 1, 0, none⟩ = some (.slice none 0 0) := by rw [cell_of_heap hT2]; rfl
      have t1 : w3.cell? ⟨w.heap.size + 1, 1, none⟩ = some (.slice none 0 0) := by rw [cell_of_heap hT2]; rfl
      have f0 := frozen_of_heap hT2 0
      have f1 := frozen_of_heap hT2 1
      have r1 := heap_same2 (a := .slice A n c') (b := .slice B m d) hT2
      have r2 := refS_less (refS_set (q := w.heap.size + 1) (a := .slice A n c') (b := .slice B m d) h2 (.inr (.inr rfl)))
      have r3 := grow_set2 (q := w.heap.size + 1) (a := .slice A n c') (b := .slice B m d) hgz (by omega)
      have R1 := Lib.hid r1
      have R2 := Lib.hid r2
      have R3 := Lib.hid r3
      clear r1 r2 r3 h2 hgz hB2 hT2
      go_wp2
      exact results_cell_tmp67 rfl rfl rfl R1.out rfl ⟨_, rfl, R2.out, R3.out⟩
    · have hP0 : putE σ.load s off = 0 := by rw [hP, if_neg ho2]
      obtain ⟨hok, h0, hpl, _⟩ := putE_zero hP0
      have hS : putS σ s off = ((σ.store (placeS σ.load s) (n0 s)).store (placeS σ.load s + 8) (n1 s)).store (placeS σ.load s + 16) off := by unfold putS; rw [if_pos hP0]
      rw [hP0, hS]
      have tlt : decide ((off : Int) < 2) = false := decide_eq_false (by omega)
      have hp := fun w => pack65 s w
      rw [hok] at hp
      have hpla := fun w' (hg : Grow wa w') => rplace_call ((h1.grow hg).ref hf.fine) s hs
      rcases place_ix σ.load s with ⟨hh, _⟩ | ⟨j, hj, hx, hsl⟩
      · exact absurd hh hpl
      rw [hx] at hpla
      rw [hsl]
      have hat := fun w => rat_call w j hj
      have hal : sl j < 3776 := by unfold sl; omega
      clear hP hS hE hP0 hok h0 hpl hx hsl h ho2
      generalize n0 s = p0 at *
      generalize n1 s = p1 at *
      generalize sl j = a at *
      have e16 : IntKind.u64.wrap ((a : Int) + 16) = ((a + 16 : Nat) : Int) := by rw [IntKind.wrap_u64]; omega
      have e8 : IntKind.u64.wrap ((a : Int) + 8) = ((a + 8 : Nat) : Int) := by rw [IntKind.wrap_u64]; omega
      go_enter Try.func175, Try.ntmps175
      go_wp2_with fail
      refine hrm.mono ?_
      rintro e w3 ⟨rfl, hgF⟩
      clear hrm a0 a1
      go_wp2_with fail
      refine (hp w3).mono ?_
      rintro e w4 ⟨rfl, hg4⟩
      have hga4 : Grow w4 (w4.alloc (.cells #[.int .u64 (p0 : Int), .int .u64 (p1 : Int)] 37)) := (Below.refl _ _).alloc (Nat.le_refl _) _
      have hQ5 := World.alloc_heap_new w4 (.cells #[.int .u64 (p0 : Int), .int .u64 (p1 : Int)] 37)
      have hgq := hgF.trans (hg4.trans hga4)
      have hqz : w.heap.size + 1 < w4.heap.size := lt_of_heap ((hgF.trans hg4).heap hT)
      have a0 : (w4.alloc (.cells #[.int .u64 (p0 : Int), .int .u64 (p1 : Int)] 37)).cell? ⟨w.heap.size, 0, none⟩ = some (.slice A n c') := by rw [cell_of_heap (hgq.heap hB)]; rfl
      have a1 : (w4.alloc (.cells #[.int .u64 (p0 : Int), .int .u64 (p1 : Int)] 37)).cell? ⟨w.heap.size, 1, none⟩ = some (.slice B m d) := by rw [cell_of_heap (hgq.heap hB)]; rfl
      clear hp hgF hg4 hga4
      go_wp2_with fail
      generalize w4.heap.size = q at *
      generalize w4.alloc (.cells #[.int .u64 (p0 : Int), .int .u64 (p1 : Int)] 37) = w5 at *
      refine (hpla _ hgq).mono ?_
      rintro e x0 ⟨rfl, hg6⟩
      have hBx0 := (hgq.trans hg6).heap hB
      have hTx0 := (hgq.trans hg6).heap hT
      have hQx0 := hg6.heap hQ5
      have hRx0 := h1.grow (hgq.trans hg6)
      have hGx0 := hga.trans (hgq.trans hg6)
      have hzx0 : wa.heap.size ≤ x0.heap.size := (hgq.trans hg6).size
      clear hpla a0 a1 hQ5 hgq hg6 hB hT h1 hga
      go_wp2
      have b0 : x0.drew.cell? ⟨w.heap.size, 0, none⟩ = some (.slice A n c') := (cell_of_heap hBx0 0).trans rfl
      have b1 : x0.drew.cell? ⟨w.heap.size, 1, none⟩ = some (.slice B m d) := (cell_of_heap hBx0 1).trans rfl
      have q0 : x0.drew.cell? ⟨q, 0, none⟩ = some (.int .u64 (p0 : Int)) := (cell_of_heap hQx0 0).trans rfl
      have q1 : x0.drew.cell? ⟨q, 1, none⟩ = some (.int .u64 (p1 : Int)) := (cell_of_heap hQx0 1).trans rfl
      refine region_plain (fun w' => w'.cell? ⟨q, 0, none⟩ = some (.int .u64 (p0 : Int)) ∧ w'.cell? ⟨q, 1, none⟩ = some (.int .u64 (p1 : Int))) (by kernel_rfl) ⟨q0, q1⟩ (fun hHeld => ?_)
      refine wpAnyH_take (i := 1) (v := ?_) rfl (by kernel_rfl) (by kernel_rfl) (by kernel_rfl) (fun _ _ _ h => h) (Or.inl ⟨by first | kernel_rfl | rfl, ?_⟩) (by assumption) ?_
      rotate_left
      · intro w hSw; (try dsimp only at hSw); (try go_split_ands); go_simp; first | done | with_reducible rfl
      try simp only [Act.put, List.getElem_toArray, List.getElem_cons_succ, List.getElem_cons_zero, List.setIfInBounds_toArray, List.set_cons_zero, List.set_cons_succ]
      refine wpAnyH_take (i := 3) (v := ?_) rfl (by kernel_rfl) (by kernel_rfl) (by kernel_rfl) (fun _ _ _ h => h) (Or.inl ⟨by first | kernel_rfl | rfl, ?_⟩) (by assumption) ?_
      rotate_left
      · intro w hSw; (try dsimp only at hSw); (try go_split_ands); go_simp; first | done | with_reducible rfl
      try simp only [Act.put, List.getElem_toArray, List.getElem_cons_succ, List.getElem_cons_zero, List.setIfInBounds_toArray, List.set_cons_zero, List.set_cons_succ]
      refine wpAnyH_take (i := 4) (v := ?_) rfl (by kernel_rfl) (by kernel_rfl) (by kernel_rfl) (fun _ _ _ h => h) (Or.inl ⟨by first | kernel_rfl | rfl, ?_⟩) (by assumption) ?_
      rotate_left
      · intro w hSw; (try dsimp only at hSw); (try go_split_ands); go_simp; first | done | with_reducible rfl
      try simp only [Act.put, List.getElem_toArray, List.getElem_cons_succ, List.getElem_cons_zero, List.setIfInBounds_toArray, List.set_cons_zero, List.set_cons_succ]
      refine wpAnyH_ready (rs := [0, 2]) (by kernel_rfl) (by simp) ?_
      refine AllReadyH.cons rfl (fun K hK => ?_) (AllReadyH.cons rfl (fun K hK => ?_) AllReadyH.nil)
      · go_simp
        refine hK.out _ _ ?_ (fun hHeld => ?_)
        · exact ⟨q0, q1⟩
        clear hK K
        try simp only [Act.put, List.getElem_toArray, List.getElem_cons_succ, List.getElem_cons_zero, List.setIfInBounds_toArray, List.set_cons_zero, List.set_cons_succ]
        refine wpAnyH_ready (rs := [2]) (by kernel_rfl) (by simp) ?_
        refine AllReadyH.cons rfl (fun K hK => ?_) AllReadyH.nil
        go_simp
        go_at_call 178
        refine Calls.mono (hat _) ?_
        rintro e yy ⟨rfl, rfl⟩
        go_wp2_with fail
        refine hK.out _ _ ?_ (fun hHeld => ?_)
        · exact ⟨q0, q1⟩
        clear hK K
        try simp only [Act.put, List.getElem_toArray, List.getElem_cons_succ, List.getElem_cons_zero, List.setIfInBounds_toArray, List.set_cons_zero, List.set_cons_succ]
        refine wpAnyH_ready (rs := [5]) (by kernel_rfl) (by simp) ?_
        refine AllReadyH.cons rfl (fun K hK => ?_) AllReadyH.nil
        go_simp
        go_at_call 156
        refine Calls.mono (rstoreS (hRx0.grow (grow_drew _)) (fun b hb => Nat.lt_of_lt_of_le (hX1 b hb) hzx0) hf.fine a p0 (by omega)) ?_
        rintro e yx0 ⟨rv', rfl, hR6, hg6⟩
        obtain ⟨A1, n1, c1, B1, m1, d1, rfl⟩ := hR6.agg
        go_wp2_with fail
        have hB6 : yx0.heap[w.heap.size]? = some (.cells #[.slice A n c', .slice B m d] 67 (0, 0)) := Grow.heap hg6 (a := x0.drew) hBx0
        have hT6 : yx0.heap[w.heap.size + 1]? = some (.cells #[.slice none 0 0, .slice none 0 0] 67 (0, 0)) := Grow.heap hg6 (a := x0.drew) hTx0
        have hQ6 : yx0.heap[q]? = some (.cells #[.int .u64 (p0 : Int), .int .u64 (p1 : Int)] 37 (0, 0)) := Grow.heap hg6 (a := x0.drew) hQx0
        have hG6 : Grow w yx0 := Grow.trans (b := x0.drew) (Below.drew hGx0) hg6
        have hz6 : wa.heap.size ≤ yx0.heap.size := Nat.le_trans hzx0 hg6.size
        clear b0 b1 q0 q1 hg6
        refine hK.out _ _ ?_ (fun hHeld => ?_)
        · exact ⟨(cell_of_heap hQ6 0).trans rfl, (cell_of_heap hQ6 1).trans rfl⟩
        clear hK K
        try simp only [Act.put, List.getElem_toArray, List.getElem_cons_succ, List.getElem_cons_zero, List.setIfInBounds_toArray, List.set_cons_zero, List.set_cons_succ]
        have t0 : yx0.cell? ⟨w.heap.size, 0, none⟩ = some (.slice A n c') := by rw [cell_of_heap hB6]; rfl
        have t1 : yx0.cell? ⟨w.heap.size, 1, none⟩ = some (.slice B m d) := by rw [cell_of_heap hB6]; rfl
        have f0 := frozen_of_heap hB6 0
        have f1 := frozen_of_heap hB6 1
        have hBx1 := heap_same2 (a := .slice A1 n1 c1) (b := .slice B1 m1 d1) hB6
        have hTx1 := heap_set2 (a := .slice A1 n1 c1) (b := .slice B1 m1 d1) hT6 (show w.heap.size + 1 ≠ w.heap.size by omega)
        have hQx1 := heap_set2 (a := .slice A1 n1 c1) (b := .slice B1 m1 d1) hQ6 (show q ≠ w.heap.size by omega)
        have hRx1 := refS_set (q := w.heap.size) (a := .slice A1 n1 c1) (b := .slice B1 m1 d1) hR6 (.inr (.inl rfl))
        have hGx1 := grow_set2 (q := w.heap.size) (a := .slice A1 n1 c1) (b := .slice B1 m1 d1) hG6 (Nat.le_refl _)
        have hzx1 : wa.heap.size ≤ ((yx0.setCell ⟨w.heap.size, 0, none⟩ (.slice A1 n1 c1)).setCell ⟨w.heap.size, 1, none⟩ (.slice B1 m1 d1)).heap.size := by simpa [World.setCell] using hz6
        refine wpAnyH_ready (rs := [6]) (by kernel_rfl) (by simp) ?_
        refine AllReadyH.cons rfl (fun K hK => ?_) AllReadyH.nil
        go_simp
        refine hK.out _ _ ?_ (fun hHeld => ?_)
        · exact ⟨(cell_of_heap hQx1 0).trans rfl, (cell_of_heap hQx1 1).trans rfl⟩
        clear hK K
        try simp only [Act.put, List.getElem_toArray, List.getElem_cons_succ, List.getElem_cons_zero, List.setIfInBounds_toArray, List.set_cons_zero, List.set_cons_succ]
        refine wpAnyH_done (by kernel_rfl) ?_ _
        refine NoPanic.normal ?_
        clear t0 t1 f0 f1 hB6 hT6 hQ6 hR6 hG6 hz6 hBx0 hTx0 hQx0 hRx0 hGx0 hzx0
        generalize (yx0.setCell ⟨w.heap.size, 0, none⟩ (.slice A1 n1 c1)).setCell ⟨w.heap.size, 1, none⟩ (.slice B1 m1 d1) = x1 at *
        go_wp2
        have b0 : x1.drew.cell? ⟨w.heap.size, 0, none⟩ = some (.slice A1 n1 c1) := (cell_of_heap hBx1 0).trans rfl
        have b1 : x1.drew.cell? ⟨w.heap.size, 1, none⟩ = some (.slice B1 m1 d1) := (cell_of_heap hBx1 1).trans rfl
        have q0 : x1.drew.cell? ⟨q, 0, none⟩ = some (.int .u64 (p0 : Int)) := (cell_of_heap hQx1 0).trans rfl
        have q1 : x1.drew.cell? ⟨q, 1, none⟩ = some (.int .u64 (p1 : Int)) := (cell_of_heap hQx1 1).trans rfl
        refine region_plain (fun w' => w'.cell? ⟨q, 0, none⟩ = some (.int .u64 (p0 : Int)) ∧ w'.cell? ⟨q, 1, none⟩ = some (.int .u64 (p1 : Int))) (by kernel_rfl) ⟨q0, q1⟩ (fun hHeld => ?_)
        refine wpAnyH_take (i := 1) (v := ?_) rfl (by kernel_rfl) (by kernel_rfl) (by kernel_rfl) (fun _ _ _ h => h) (Or.inl ⟨by first | kernel_rfl | rfl, ?_⟩) (by assumption) ?_
        rotate_left
        · intro w hSw; (try dsimp only at hSw); (try go_split_ands); go_simp; first | done | with_reducible rfl
        try simp only [Act.put, List.getElem_toArray, List.getElem_cons_succ, List.getElem_cons_zero, List.setIfInBounds_toArray, List.set_cons_zero, List.set_cons_succ]
        refine wpAnyH_take (i := 4) (v := ?_) rfl (by kernel_rfl) (by kernel_rfl) (by kernel_rfl) (fun _ _ _ h => h) (Or.inl ⟨by first | kernel_rfl | rfl, ?_⟩) (by assumption) ?_
        rotate_left
        · intro w hSw; (try dsimp only at hSw); (try go_split_ands); go_simp; first | done | with_reducible rfl
        try simp only [Act.put, List.getElem_toArray, List.getElem_cons_succ, List.getElem_cons_zero, List.setIfInBounds_toArray, List.set_cons_zero, List.set_cons_succ]
        refine wpAnyH_take (i := 5) (v := ?_) rfl (by kernel_rfl) (by kernel_rfl) (by kernel_rfl) (fun _ _ _ h => h) (Or.inl ⟨by first | kernel_rfl | rfl, ?_⟩) (by assumption) ?_
        rotate_left
        · intro w hSw; (try dsimp only at hSw); (try go_split_ands); go_simp; first | done | with_reducible rfl
        try simp only [Act.put, List.getElem_toArray, List.getElem_cons_succ, List.getElem_cons_zero, List.setIfInBounds_toArray, List.set_cons_zero, List.set_cons_succ]
        refine wpAnyH_ready (rs := [0, 2]) (by kernel_rfl) (by simp) ?_
        refine AllReadyH.cons rfl (fun K hK => ?_) (AllReadyH.cons rfl (fun K hK => ?_) AllReadyH.nil)
        · go_simp
          refine hK.out _ _ ?_ (fun hHeld => ?_)
          · exact ⟨q0, q1⟩
          clear hK K
          try simp only [Act.put, List.getElem_toArray, List.getElem_cons_succ, List.getElem_cons_zero, List.setIfInBounds_toArray, List.set_cons_zero, List.set_cons_succ]
          refine wpAnyH_ready (rs := [2]) (by kernel_rfl) (by simp) ?_
          refine AllReadyH.cons rfl (fun K hK => ?_) AllReadyH.nil
          go_simp
          go_at_call 178
          refine Calls.mono (hat _) ?_
          rintro e yy ⟨rfl, rfl⟩
          go_wp2_with fail
          refine hK.out _ _ ?_ (fun hHeld => ?_)
          · exact ⟨q0, q1⟩
          clear hK K
          try simp only [Act.put, List.getElem_toArray, List.getElem_cons_succ, List.getElem_cons_zero, List.setIfInBounds_toArray, List.set_cons_zero, List.set_cons_succ]
          refine wpAnyH_take (i := 3) (v := ?_) rfl (by kernel_rfl) (by kernel_rfl) (by kernel_rfl) (fun _ _ _ h => h) (Or.inl ⟨by first | kernel_rfl | rfl, ?_⟩) (by assumption) ?_
          rotate_left
          · intro w hSw; (try dsimp only at hSw); (try go_split_ands); go_simp; first | done | with_reducible rfl
          try simp only [Act.put, List.getElem_toArray, List.getElem_cons_succ, List.getElem_cons_zero, List.setIfInBounds_toArray, List.set_cons_zero, List.set_cons_succ]
          refine wpAnyH_ready (rs := [6]) (by kernel_rfl) (by simp) ?_
          refine AllReadyH.cons rfl (fun K hK => ?_) AllReadyH.nil
          go_simp
          go_at_call 156
          refine Calls.mono (rstoreS (hRx1.grow (grow_drew _)) (fun b hb => Nat.lt_of_lt_of_le (hX1 b hb) hzx1) (hf.store a p0).fine (a + 8) p1 (by omega)) ?_
          rintro e yx1 ⟨rv', rfl, hR6, hg6⟩
          obtain ⟨A2, n2, c2, B2, m2, d2, rfl⟩ := hR6.agg
          go_wp2_with fail
          have hB6 : yx1.heap[w.heap.size]? = some (.cells #[.slice A1 n1 c1, .slice B1 m1 d1] 67 (0, 0)) := Grow.heap hg6 (a := x1.drew) hBx1
          have hT6 : yx1.heap[w.heap.size + 1]? = some (.cells #[.slice none 0 0, .slice none 0 0] 67 (0, 0)) := Grow.heap hg6 (a := x1.drew) hTx1
          have hQ6 : yx1.heap[q]? = some (.cells #[.int .u64 (p0 : Int), .int .u64 (p1 : Int)] 37 (0, 0)) := Grow.heap hg6 (a := x1.drew) hQx1
          have hG6 : Grow w yx1 := Grow.trans (b := x1.drew) (Below.drew hGx1) hg6
          have hz6 : wa.heap.size ≤ yx1.heap.size := Nat.le_trans hzx1 hg6.size
          clear b0 b1 q0 q1 hg6
          refine hK.out _ _ ?_ (fun hHeld => ?_)
          · exact ⟨(cell_of_heap hQ6 0).trans rfl, (cell_of_heap hQ6 1).trans rfl⟩
          clear hK K
          try simp only [Act.put, List.getElem_toArray, List.getElem_cons_succ, List.getElem_cons_zero, List.setIfInBounds_toArray, List.set_cons_zero, List.set_cons_succ]
          have t0 : yx1.cell? ⟨w.heap.size, 0, none⟩ = some (.slice A1 n1 c1) := by rw [cell_of_heap hB6]; rfl
          have t1 : yx1.cell? ⟨w.heap.size, 1, none⟩ = some (.slice B1 m1 d1) := by rw [cell_of_heap hB6]; rfl
          have f0 := frozen_of_heap hB6 0
          have f1 := frozen_of_heap hB6 1
          have hBx2 := heap_same2 (a := .slice A2 n2 c2) (b := .slice B2 m2 d2) hB6
          have hTx2 := heap_set2 (a := .slice A2 n2 c2) (b := .slice B2 m2 d2) hT6 (show w.heap.size + 1 ≠ w.heap.size by omega)
          have hQx2 := heap_set2 (a := .slice A2 n2 c2) (b := .slice B2 m2 d2) hQ6 (show q ≠ w.heap.size by omega)
          have hRx2 := refS_set (q := w.heap.size) (a := .slice A2 n2 c2) (b := .slice B2 m2 d2) hR6 (.inr (.inl rfl))
          have hGx2 := grow_set2 (q := w.heap.size) (a := .slice A2 n2 c2) (b := .slice B2 m2 d2) hG6 (Nat.le_refl _)
          have hzx2 : wa.heap.size ≤ ((yx1.setCell ⟨w.heap.size, 0, none⟩ (.slice A2 n2 c2)).setCell ⟨w.heap.size, 1, none⟩ (.slice B2 m2 d2)).heap.size := by simpa [World.setCell] using hz6
          refine wpAnyH_ready (rs := [7]) (by kernel_rfl) (by simp) ?_
          refine AllReadyH.cons rfl (fun K hK => ?_) AllReadyH.nil
          go_simp
          refine hK.out _ _ ?_ (fun hHeld => ?_)
          · exact ⟨(cell_of_heap hQx2 0).trans rfl, (cell_of_heap hQx2 1).trans rfl⟩
          clear hK K
          try simp only [Act.put, List.getElem_toArray, List.getElem_cons_succ, List.getElem_cons_zero, List.setIfInBounds_toArray, List.set_cons_zero, List.set_cons_succ]
          refine wpAnyH_done (by kernel_rfl) ?_ _
          refine NoPanic.normal ?_
          clear t0 t1 f0 f1 hB6 hT6 hQ6 hR6 hG6 hz6 hBx1 hTx1 hQx1 hRx1 hGx1 hzx1
          generalize (yx1.setCell ⟨w.heap.size, 0, none⟩ (.slice A2 n2 c2)).setCell ⟨w.heap.size, 1, none⟩ (.slice B2 m2 d2) = x2 at *
          go_wp2
          have b0 : x2.drew.cell? ⟨w.heap.size, 0, none⟩ = some (.slice A2 n2 c2) := (cell_of_heap hBx2 0).trans rfl
          have b1 : x2.drew.cell? ⟨w.heap.size, 1, none⟩ = some (.slice B2 m2 d2) := (cell_of_heap hBx2 1).trans rfl
          refine region_plain (fun w' => w'.cell? ⟨w.heap.size, 0, none⟩ = some (.slice A2 n2 c2) ∧ w'.cell? ⟨w.heap.size, 1, none⟩ = some (.slice B2 m2 d2)) (by kernel_rfl) ⟨b0, b1⟩ (fun hHeld => ?_)
          refine wpAnyH_take (i := 0) (v := ?_) rfl (by kernel_rfl) (by kernel_rfl) (by kernel_rfl) (fun _ _ _ h => h) (Or.inl ⟨by first | kernel_rfl | rfl, ?_⟩) (by assumption) ?_
          rotate_left
          · intro w hSw; (try dsimp only at hSw); (try go_split_ands); go_simp; first | done | with_reducible rfl
          try simp only [Act.put, List.getElem_toArray, List.getElem_cons_zero, List.setIfInBounds_toArray, List.set_cons_zero, List.set_cons_succ]
          refine wpAnyH_take (i := 1) (v := ?_) rfl (by kernel_rfl) (by kernel_rfl) (by kernel_rfl) (fun _ _ _ h => h) (Or.inl ⟨by first | kernel_rfl | rfl, ?_⟩) (by assumption) ?_
          rotate_left
          · intro w hSw; (try dsimp only at hSw); (try go_split_ands); go_simp; first | done | with_reducible rfl
          try simp only [Act.put, List.getElem_toArray, List.getElem_cons_succ, List.getElem_cons_zero, List.setIfInBounds_toArray, List.set_cons_zero, List.set_cons_succ]
          refine wpAnyH_take (i := 4) (v := ?_) rfl (by kernel_rfl) (by kernel_rfl) (by kernel_rfl) (fun _ _ _ h => h) (Or.inl ⟨by first | kernel_rfl | rfl, ?_⟩) (by assumption) ?_
          rotate_left
          · intro w hSw; (try dsimp only at hSw); (try go_split_ands); go_simp; first | done | with_reducible rfl
          try simp only [Act.put, List.getElem_toArray, List.getElem_cons_succ, List.getElem_cons_zero, List.setIfInBounds_toArray, List.set_cons_zero, List.set_cons_succ]
          refine wpAnyH_ready (rs := [2]) (by kernel_rfl) (by simp) ?_
          refine AllReadyH.cons rfl (fun K hK => ?_) AllReadyH.nil
          go_simp
          go_at_call 178
          refine Calls.mono (hat _) ?_
          rintro e yy ⟨rfl, rfl⟩
          go_wp2_with fail
          refine hK.out _ _ ?_ (fun hHeld => ?_)
          · exact ⟨b0, b1⟩
          clear hK K
          try simp only [Act.put, List.getElem_toArray, List.getElem_cons_succ, List.getElem_cons_zero, List.setIfInBounds_toArray, List.set_cons_zero, List.set_cons_succ]
          refine wpAnyH_take (i := 3) (v := ?_) rfl (by kernel_rfl) (by kernel_rfl) (by kernel_rfl) (fun _ _ _ h => h) (Or.inl ⟨by first | kernel_rfl | rfl, ?_⟩) (by assumption) ?_
          rotate_left
          · intro w hSw; (try dsimp only at hSw); (try go_split_ands); go_simp; first | done | with_reducible rfl
          try simp only [Act.put, List.getElem_toArray, List.getElem_cons_succ, List.getElem_cons_zero, List.setIfInBounds_toArray, List.set_cons_zero, List.set_cons_succ]
          refine wpAnyH_ready (rs := [5]) (by kernel_rfl) (by simp) ?_
          refine AllReadyH.cons rfl (fun K hK => ?_) AllReadyH.nil
          go_simp
          go_at_call 156
          refine Calls.mono (rstoreS (hRx2.grow (grow_drew _)) (fun b hb => Nat.lt_of_lt_of_le (hX1 b hb) hzx2) ((hf.store a p0).store (a + 8) p1).fine (a + 16) off (by omega)) ?_
          rintro e yx2 ⟨rv', rfl, hR6, hg6⟩
          obtain ⟨A9, n9, c9, B9, m9, d9, rfl⟩ := hR6.agg
          go_wp2_with fail
          have hB6 : yx2.heap[w.heap.size]? = some (.cells #[.slice A2 n2 c2, .slice B2 m2 d2] 67 (0, 0)) := Grow.heap hg6 (a := x2.drew) hBx2
          have hT6 : yx2.heap[w.heap.size + 1]? = some (.cells #[.slice none 0 0, .slice none 0 0] 67 (0, 0)) := Grow.heap hg6 (a := x2.drew) hTx2
          have hG6 : Grow w yx2 := Grow.trans (b := x2.drew) (Below.drew hGx2) hg6
          clear b0 b1 hg6
          refine hK.out _ _ ?_ (fun hHeld => ?_)
          · exact ⟨(cell_of_heap hB6 0).trans rfl, (cell_of_heap hB6 1).trans rfl⟩
          clear hK K
          try simp only [Act.put, List.getElem_toArray, List.getElem_cons_succ, List.getElem_cons_zero, List.setIfInBounds_toArray, List.set_cons_zero, List.set_cons_succ]
          have t0 : yx2.cell? ⟨w.heap.size + 1, 0, none⟩ = some (.slice none 0 0) := by rw [cell_of_heap hT6]; rfl
          have t1 : yx2.cell? ⟨w.heap.size + 1, 1, none⟩ = some (.slice none 0 0) := by rw [cell_of_heap hT6]; rfl
          have f0 := frozen_of_heap hT6 0
          have f1 := frozen_of_heap hT6 1
          have hB7 := heap_set2 (a := .slice A9 n9 c9) (b := .slice B9 m9 d9) hB6 (show w.heap.size ≠ w.heap.size + 1 by omega)
          have r1 := heap_same2 (a := .slice A9 n9 c9) (b := .slice B9 m9 d9) hT6
          have r2 := refS_less (refS_set (q := w.heap.size + 1) (a := .slice A9 n9 c9) (b := .slice B9 m9 d9) hR6 (.inr (.inr rfl)))
          have r3 := grow_set2 (q := w.heap.size + 1) (a := .slice A9 n9 c9) (b := .slice B9 m9 d9) hG6 (by omega)
          have R1 := Lib.hid r1
          have R2 := Lib.hid r2
          have R3 := Lib.hid r3
          clear r1 r2 r3
          refine wpAnyH_ready (rs := [6]) (by kernel_rfl) (by simp) ?_
          refine AllReadyH.cons rfl (fun K hK => ?_) AllReadyH.nil
          go_simp
          refine hK.out _ _ ?_ (fun hHeld => ?_)
          · exact ⟨(cell_of_heap hB7 0).trans rfl, (cell_of_heap hB7 1).trans rfl⟩
          clear hK K
          try simp only [Act.put, List.getElem_toArray, List.getElem_cons_succ, List.getElem_cons_zero, List.setIfInBounds_toArray, List.set_cons_zero, List.set_cons_succ]
          refine wpAnyH_take (i := 7) (v := ?_) rfl (by kernel_rfl) (by kernel_rfl) (by kernel_rfl) (fun _ _ _ h => h) (Or.inl ⟨by first | kernel_rfl | rfl, ?_⟩) (by assumption) ?_
          rotate_left
          · intro w hSw; (try dsimp only at hSw); (try go_split_ands); go_simp; first | done | with_reducible rfl
          try simp only [Act.put, List.getElem_toArray, List.getElem_cons_succ, List.getElem_cons_zero, List.setIfInBounds_toArray, List.set_cons_zero, List.set_cons_succ]
          refine wpAnyH_done (by kernel_rfl) ?_ _
          refine NoPanic.normal ?_
          clear hB7 hB6 hT6 hR6 hG6 hBx2 hTx2 hQx2 hRx2 hGx2 hzx2
          go_wp2
          exact results_cell_tmp67 rfl rfl rfl R1.out rfl ⟨_, rfl, R2.out, R3.out⟩
        · go_simp
          go_at_call 178
          refine Calls.mono (hat _) ?_
          rintro e yy ⟨rfl, rfl⟩
          go_wp2_with fail
          refine hK.out _ _ ?_ (fun hHeld => ?_)
          · exact ⟨q0, q1⟩
          clear hK K
          try simp only [Act.put, List.getElem_toArray, List.getElem_cons_succ, List.getElem_cons_zero, List.setIfInBounds_toArray, List.set_cons_zero, List.set_cons_succ]
          refine wpAnyH_take (i := 3) (v := ?_) rfl (by kernel_rfl) (by kernel_rfl) (by kernel_rfl) (fun _ _ _ h => h) (Or.inl ⟨by first | kernel_rfl | rfl, ?_⟩) (by assumption) ?_
          rotate_left
          · intro w hSw; (try dsimp only at hSw); (try go_split_ands); go_simp; first | done | with_reducible rfl
          try simp only [Act.put, List.getElem_toArray, List.getElem_cons_succ, List.getElem_cons_zero, List.setIfInBounds_toArray, List.set_cons_zero, List.set_cons_succ]
          refine wpAnyH_ready (rs := [0]) (by kernel_rfl) (by simp) ?_
          refine AllReadyH.cons rfl (fun K hK => ?_) AllReadyH.nil
          go_simp
          refine hK.out _ _ ?_ (fun hHeld => ?_)
          · exact ⟨q0, q1⟩
          clear hK K
          try simp only [Act.put, List.getElem_toArray, List.getElem_cons_succ, List.getElem_cons_zero, List.setIfInBounds_toArray, List.set_cons_zero, List.set_cons_succ]
          refine wpAnyH_ready (rs := [6]) (by kernel_rfl) (by simp) ?_
          refine AllReadyH.cons rfl (fun K hK => ?_) AllReadyH.nil
          go_simp
          go_at_call 156
          refine Calls.mono (rstoreS (hRx1.grow (grow_drew _)) (fun b hb => Nat.lt_of_lt_of_le (hX1 b hb) hzx1) (hf.store a p0).fine (a + 8) p1 (by omega)) ?_
          rintro e yx1 ⟨rv', rfl, hR6, hg6⟩
          obtain ⟨A2, n2, c2, B2, m2, d2, rfl⟩ := hR6.agg
          go_wp2_with fail
          have hB6 : yx1.heap[w.heap.size]? = some (.cells #[.slice A1 n1 c1, .slice B1 m1 d1] 67 (0, 0)) := Grow.heap hg6 (a := x1.drew) hBx1
          have hT6 : yx1.heap[w.heap.size + 1]? = some (.cells #[.slice none 0 0, .slice none 0 0] 67 (0, 0)) := Grow.heap hg6 (a := x1.drew) hTx1
          have hQ6 : yx1.heap[q]? = some (.cells #[.int .u64 (p0 : Int), .int .u64 (p1 : Int)] 37 (0, 0)) := Grow.heap hg6 (a := x1.drew) hQx1
          have hG6 : Grow w yx1 := Grow.trans (b := x1.drew) (Below.drew hGx1) hg6
          have hz6 : wa.heap.size ≤ yx1.heap.size := Nat.le_trans hzx1 hg6.size
          clear b0 b1 q0 q1 hg6
          refine hK.out _ _ ?_ (fun hHeld => ?_)
          · exact ⟨(cell_of_heap hQ6 0).trans rfl, (cell_of_heap hQ6 1).trans rfl⟩
          clear hK K
          try simp only [Act.put, List.getElem_toArray, List.getElem_cons_succ, List.getElem_cons_zero, List.setIfInBounds_toArray, List.set_cons_zero, List.set_cons_succ]
          have t0 : yx1.cell? ⟨w.heap.size, 0, none⟩ = some (.slice A1 n1 c1) := by rw [cell_of_heap hB6]; rfl
          have t1 : yx1.cell? ⟨w.heap.size, 1, none⟩ = some (.slice B1 m1 d1) := by rw [cell_of_heap hB6]; rfl
          have f0 := frozen_of_heap hB6 0
          have f1 := frozen_of_heap hB6 1
          have hBx2 := heap_same2 (a := .slice A2 n2 c2) (b := .slice B2 m2 d2) hB6
          have hTx2 := heap_set2 (a := .slice A2 n2 c2) (b := .slice B2 m2 d2) hT6 (show w.heap.size + 1 ≠ w.heap.size by omega)
          have hQx2 := heap_set2 (a := .slice A2 n2 c2) (b := .slice B2 m2 d2) hQ6 (show q ≠ w.heap.size by omega)
          have hRx2 := refS_set (q := w.heap.size) (a := .slice A2 n2 c2) (b := .slice B2 m2 d2) hR6 (.inr (.inl rfl))
          have hGx2 := grow_set2 (q := w.heap.size) (a := .slice A2 n2 c2) (b := .slice B2 m2 d2) hG6 (Nat.le_refl _)
          have hzx2 : wa.heap.size ≤ ((yx1.setCell ⟨w.heap.size, 0, none⟩ (.slice A2 n2 c2)).setCell ⟨w.heap.size, 1, none⟩ (.slice B2 m2 d2)).heap.size := by simpa [World.setCell] using hz6
          refine wpAnyH_ready (rs := [7]) (by kernel_rfl) (by simp) ?_
          refine AllReadyH.cons rfl (fun K hK => ?_) AllReadyH.nil
          go_simp
          refine hK.out _ _ ?_ (fun hHeld => ?_)
          · exact ⟨(cell_of_heap hQx2 0).trans rfl, (cell_of_heap hQx2 1).trans rfl⟩
          clear hK K
          try simp only [Act.put, List.getElem_toArray, List.getElem_cons_succ, List.getElem_cons_zero, List.setIfInBounds_toArray, List.set_cons_zero, List.set_cons_succ]
          refine wpAnyH_done (by kernel_rfl) ?_ _
          refine NoPanic.normal ?_
          clear t0 t1 f0 f1 hB6 hT6 hQ6 hR6 hG6 hz6 hBx1 hTx1 hQx1 hRx1 hGx1 hzx1
          generalize (yx1.setCell ⟨w.heap.size, 0, none⟩ (.slice A2 n2 c2)).setCell ⟨w.heap.size, 1, none⟩ (.slice B2 m2 d2) = x2 at *
          go_wp2
          have b0 : x2.drew.cell? ⟨w.heap.size, 0, none⟩ = some (.slice A2 n2 c2) := (cell_of_heap hBx2 0).trans rfl
          have b1 : x2.drew.cell? ⟨w.heap.size, 1, none⟩ = some (.slice B2 m2 d2) := (cell_of_heap hBx2 1).trans rfl
          refine region_plain (fun w' => w'.cell? ⟨w.heap.size, 0, none⟩ = some (.slice A2 n2 c2) ∧ w'.cell? ⟨w.heap.size, 1, none⟩ = some (.slice B2 m2 d2)) (by kernel_rfl) ⟨b0, b1⟩ (fun hHeld => ?_)
          refine wpAnyH_take (i := 0) (v := ?_) rfl (by kernel_rfl) (by kernel_rfl) (by kernel_rfl) (fun _ _ _ h => h) (Or.inl ⟨by first | kernel_rfl | rfl, ?_⟩) (by assumption) ?_
          rotate_left
          · intro w hSw; (try dsimp only at hSw); (try go_split_ands); go_simp; first | done | with_reducible rfl
          try simp only [Act.put, List.getElem_toArray, List.getElem_cons_zero, List.setIfInBounds_toArray, List.set_cons_zero, List.set_cons_succ]
          refine wpAnyH_take (i := 1) (v := ?_) rfl (by kernel_rfl) (by kernel_rfl) (by kernel_rfl) (fun _ _ _ h => h) (Or.inl ⟨by first | kernel_rfl | rfl, ?_⟩) (by assumption) ?_
          rotate_left
          · intro w hSw; (try dsimp only at hSw); (try go_split_ands); go_simp; first | done | with_reducible rfl
          try simp only [Act.put, List.getElem_toArray, List.getElem_cons_succ, List.getElem_cons_zero, List.setIfInBounds_toArray, List.set_cons_zero, List.set_cons_succ]
          refine wpAnyH_take (i := 4) (v := ?_) rfl (by kernel_rfl) (by kernel_rfl) (by kernel_rfl) (fun _ _ _ h => h) (Or.inl ⟨by first | kernel_rfl | rfl, ?_⟩) (by assumption) ?_
          rotate_left
          · intro w hSw; (try dsimp only at hSw); (try go_split_ands); go_simp; first | done | with_reducible rfl
          try simp only [Act.put, List.getElem_toArray, List.getElem_cons_succ, List.getElem_cons_zero, List.setIfInBounds_toArray, List.set_cons_zero, List.set_cons_succ]
          refine wpAnyH_ready (rs := [2]) (by kernel_rfl) (by simp) ?_
          refine AllReadyH.cons rfl (fun K hK => ?_) AllReadyH.nil
          go_simp
          go_at_call 178
          refine Calls.mono (hat _) ?_
          rintro e yy ⟨rfl, rfl⟩
          go_wp2_with fail
          refine hK.out _ _ ?_ (fun hHeld => ?_)
          · exact ⟨b0, b1⟩
          clear hK K
          try simp only [Act.put, List.getElem_toArray, List.getElem_cons_succ, List.getElem_cons_zero, List.setIfInBounds_toArray, List.set_cons_zero, List.set_cons_succ]
          refine wpAnyH_take (i := 3) (v := ?_) rfl (by kernel_rfl) (by kernel_rfl) (by kernel_rfl) (fun _ _ _ h => h) (Or.inl ⟨by first | kernel_rfl | rfl, ?_⟩) (by assumption) ?_
          rotate_left
          · intro w hSw; (try dsimp only at hSw); (try go_split_ands); go_simp; first | done | with_reducible rfl
          try simp only [Act.put, List.getElem_toArray, List.getElem_cons_succ, List.getElem_cons_zero, List.setIfInBounds_toArray, List.set_cons_zero, List.set_cons_succ]
          refine wpAnyH_ready (rs := [5]) (by kernel_rfl) (by simp) ?_
          refine AllReadyH.cons rfl (fun K hK => ?_) AllReadyH.nil
          go_simp
          go_at_call 156
          refine Calls.mono (rstoreS (hRx2.grow (grow_drew _)) (fun b hb => Nat.lt_of_lt_of_le (hX1 b hb) hzx2) ((hf.store a p0).store (a + 8) p1).fine (a + 16) off (by omega)) ?_
          rintro e yx2 ⟨rv', rfl, hR6, hg6⟩
          obtain ⟨A9, n9, c9, B9, m9, d9, rfl⟩ := hR6.agg
          go_wp2_with fail
          have hB6 : yx2.heap[w.heap.size]? = some (.cells #[.slice A2 n2 c2, .slice B2 m2 d2] 67 (0, 0)) := Grow.heap hg6 (a := x2.drew) hBx2
          have hT6 : yx2.heap[w.heap.size + 1]? = some (.cells #[.slice none 0 0, .slice none 0 0] 67 (0, 0)) := Grow.heap hg6 (a := x2.drew) hTx2
          have hG6 : Grow w yx2 := Grow.trans (b := x2.drew) (Below.drew hGx2) hg6
          clear b0 b1 hg6
          refine hK.out _ _ ?_ (fun hHeld => ?_)
          · exact ⟨(cell_of_heap hB6 0).trans rfl, (cell_of_heap hB6 1).trans rfl⟩
          clear hK K
          try simp only [Act.put, List.getElem_toArray, List.getElem_cons_succ, List.getElem_cons_zero, List.setIfInBounds_toArray, List.set_cons_zero, List.set_cons_succ]
          have t0 : yx2.cell? ⟨w.heap.size + 1, 0, none⟩ = some (.slice none 0 0) := by rw [cell_of_heap hT6]; rfl
          have t1 : yx2.cell? ⟨w.heap.size + 1, 1, none⟩ = some (.slice none 0 0) := by rw [cell_of_heap hT6]; rfl
          have f0 := frozen_of_heap hT6 0
          have f1 := frozen_of_heap hT6 1
          have hB7 := heap_set2 (a := .slice A9 n9 c9) (b := .slice B9 m9 d9) hB6 (show w.heap.size ≠ w.heap.size + 1 by omega)
          have r1 := heap_same2 (a := .slice A9 n9 c9) (b := .slice B9 m9 d9) hT6
          have r2 := refS_less (refS_set (q := w.heap.size + 1) (a := .slice A9 n9 c9) (b := .slice B9 m9 d9) hR6 (.inr (.inr rfl)))
          have r3 := grow_set2 (q := w.heap.size + 1) (a := .slice A9 n9 c9) (b := .slice B9 m9 d9) hG6 (by omega)
          have R1 := Lib.hid r1
          have R2 := Lib.hid r2
          have R3 := Lib.hid r3
          clear r1 r2 r3
          refine wpAnyH_ready (rs := [6]) (by kernel_rfl) (by simp) ?_
          refine AllReadyH.cons rfl (fun K hK => ?_) AllReadyH.nil
          go_simp
          refine hK.out _ _ ?_ (fun hHeld => ?_)
          · exact ⟨(cell_of_heap hB7 0).trans rfl, (cell_of_heap hB7 1).trans rfl⟩
          clear hK K
          try simp only [Act.put, List.getElem_toArray, List.getElem_cons_succ, List.getElem_cons_zero, List.setIfInBounds_toArray, List.set_cons_zero, List.set_cons_succ]
          refine wpAnyH_take (i := 7) (v := ?_) rfl (by kernel_rfl) (by kernel_rfl) (by kernel_rfl) (fun _ _ _ h => h) (Or.inl ⟨by first | kernel_rfl | rfl, ?_⟩) (by assumption) ?_
          rotate_left
          · intro w hSw; (try dsimp only at hSw); (try go_split_ands); go_simp; first | done | with_reducible rfl
          try simp only [Act.put, List.getElem_toArray, List.getElem_cons_succ, List.getElem_cons_zero, List.setIfInBounds_toArray, List.set_cons_zero, List.set_cons_succ]
          refine wpAnyH_done (by kernel_rfl) ?_ _
          refine NoPanic.normal ?_
          clear hB7 hB6 hT6 hR6 hG6 hBx2 hTx2 hQx2 hRx2 hGx2 hzx2
          go_wp2
          exact results_cell_tmp67 rfl rfl rfl R1.out rfl ⟨_, rfl, R2.out, R3.out⟩
      · go_simp
        go_at_call 178
        refine Calls.mono (hat _) ?_
        rintro e yy ⟨rfl, rfl⟩
        go_wp2_with fail
        refine hK.out _ _ ?_ (fun hHeld => ?_)
        · exact ⟨q0, q1⟩
        clear hK K
        try simp only [Act.put, List.getElem_toArray, List.getElem_cons_succ, List.getElem_cons_zero, List.setIfInBounds_toArray, List.set_cons_zero, List.set_cons_succ]
        refine wpAnyH_ready (rs := [0]) (by kernel_rfl) (by simp) ?_
        refine AllReadyH.cons rfl (fun K hK => ?_) AllReadyH.nil
        go_simp
        refine hK.out _ _ ?_ (fun hHeld => ?_)
        · exact ⟨q0, q1⟩
        clear hK K
        try simp only [Act.put, List.getElem_toArray, List.getElem_cons_succ, List.getElem_cons_zero, List.setIfInBounds_toArray, List.set_cons_zero, List.set_cons_succ]
        refine wpAnyH_ready (rs := [5]) (by kernel_rfl) (by simp) ?_
        refine AllReadyH.cons rfl (fun K hK => ?_) AllReadyH.nil
        go_simp
        go_at_call 156
        refine Calls.mono (rstoreS (hRx0.grow (grow_drew _)) (fun b hb => Nat.lt_of_lt_of_le (hX1 b hb) hzx0) hf.fine a p0 (by omega)) ?_
        rintro e yx0 ⟨rv', rfl, hR6, hg6⟩
        obtain ⟨A1, n1, c1, B1, m1, d1, rfl⟩ := hR6.agg
        go_wp2_with fail
        have hB6 : yx0.heap[w.heap.size]? = some (.cells #[.slice A n c', .slice B m d] 67 (0, 0)) := Grow.heap hg6 (a := x0.drew) hBx0
        have hT6 : yx0.heap[w.heap.size + 1]? = some (.cells #[.slice none 0 0, .slice none 0 0] 67 (0, 0)) := Grow.heap hg6 (a := x0.drew) hTx0
        have hQ6 : yx0.heap[q]? = some (.cells #[.int .u64 (p0 : Int), .int .u64 (p1 : Int)] 37 (0, 0)) := Grow.heap hg6 (a := x0.drew) hQx0
        have hG6 : Grow w yx0 := Grow.trans (b := x0.drew) (Below.drew hGx0) hg6
        have hz6 : wa.heap.size ≤ yx0.heap.size := Nat.le_trans hzx0 hg6.size
        clear b0 b1 q0 q1 hg6
        refine hK.out _ _ ?_ (fun hHeld => ?_)
        · exact ⟨(cell_of_heap hQ6 0).trans rfl, (cell_of_heap hQ6 1).trans rfl⟩
        clear hK K
        try simp only [Act.put, List.getElem_toArray, List.getElem_cons_succ, List.getElem_cons_zero, List.setIfInBounds_toArray, List.set_cons_zero, List.set_cons_succ]
        have t0 : yx0.cell? ⟨w.heap.size, 0, none⟩ = some (.slice A n c') := by rw [cell_of_heap hB6]; rfl
        have t1 : yx0.cell? ⟨w.heap.size, 1, none⟩ = some (.slice B m d) := by rw [cell_of_heap hB6]; rfl
        have f0 := frozen_of_heap hB6 0
        have f1 := frozen_of_heap hB6 1
        have hBx1 := heap_same2 (a := .slice A1 n1 c1) (b := .slice B1 m1 d1) hB6
        have hTx1 := heap_set2 (a := .slice A1 n1 c1) (b := .slice B1 m1 d1) hT6 (show w.heap.size + 1 ≠ w.heap.size by omega)
        have hQx1 := heap_set2 (a := .slice A1 n1 c1) (b := .slice B1 m1 d1) hQ6 (show q ≠ w.heap.size by omega)
        have hRx1 := refS_set (q := w.heap.size) (a := .slice A1 n1 c1) (b := .slice B1 m1 d1) hR6 (.inr (.inl rfl))
        have hGx1 := grow_set2 (q := w.heap.size) (a := .slice A1 n1 c1) (b := .slice B1 m1 d1) hG6 (Nat.le_refl _)
        have hzx1 : wa.heap.size ≤ ((yx0.setCell ⟨w.heap.size, 0, none⟩ (.slice A1 n1 c1)).setCell ⟨w.heap.size, 1, none⟩ (.slice B1 m1 d1)).heap.size := by simpa [World.setCell] using hz6
        refine wpAnyH_ready (rs := [6]) (by kernel_rfl) (by simp) ?_
        refine AllReadyH.cons rfl (fun K hK => ?_) AllReadyH.nil
        go_simp
        refine hK.out _ _ ?_ (fun hHeld => ?_)
        · exact ⟨(cell_of_heap hQx1 0).trans rfl, (cell_of_heap hQx1 1).trans rfl⟩
        clear hK K
        try simp only [Act.put, List.getElem_toArray, List.getElem_cons_succ, List.getElem_cons_zero, List.setIfInBounds_toArray, List.set_cons_zero, List.set_cons_succ]
        refine wpAnyH_done (by kernel_rfl) ?_ _
        refine NoPanic.normal ?_
        clear t0 t1 f0 f1 hB6 hT6 hQ6 hR6 hG6 hz6 hBx0 hTx0 hQx0 hRx0 hGx0 hzx0
        generalize (yx0.setCell ⟨w.heap.size, 0, none⟩ (.slice A1 n1 c1)).setCell ⟨w.heap.size, 1, none⟩ (.slice B1 m1 d1) = x1 at *
        go_wp2
        have b0 : x1.drew.cell? ⟨w.heap.size, 0, none⟩ = some (.slice A1 n1 c1) := (cell_of_heap hBx1 0).trans rfl
        have b1 : x1.drew.cell? ⟨w.heap.size, 1, none⟩ = some (.slice B1 m1 d1) := (cell_of_heap hBx1 1).trans rfl
        have q0 : x1.drew.cell? ⟨q, 0, none⟩ = some (.int .u64 (p0 : Int)) := (cell_of_heap hQx1 0).trans rfl
        have q1 : x1.drew.cell? ⟨q, 1, none⟩ = some (.int .u64 (p1 : Int)) := (cell_of_heap hQx1 1).trans rfl
        refine region_plain (fun w' => w'.cell? ⟨q, 0, none⟩ = some (.int .u64 (p0 : Int)) ∧ w'.cell? ⟨q, 1, none⟩ = some (.int .u64 (p1 : Int))) (by kernel_rfl) ⟨q0, q1⟩ (fun hHeld => ?_)
        refine wpAnyH_take (i := 1) (v := ?_) rfl (by kernel_rfl) (by kernel_rfl) (by kernel_rfl) (fun _ _ _ h => h) (Or.inl ⟨by first | kernel_rfl | rfl, ?_⟩) (by assumption) ?_
        rotate_left
        · intro w hSw; (try dsimp only at hSw); (try go_split_ands); go_simp; first | done | with_reducible rfl
        try simp only [Act.put, List.getElem_toArray, List.getElem_cons_succ, List.getElem_cons_zero, List.setIfInBounds_toArray, List.set_cons_zero, List.set_cons_succ]
        refine wpAnyH_take (i := 4) (v := ?_) rfl (by kernel_rfl) (by kernel_rfl) (by kernel_rfl) (fun _ _ _ h => h) (Or.inl ⟨by first | kernel_rfl | rfl, ?_⟩) (by assumption) ?_
        rotate_left
        · intro w hSw; (try dsimp only at hSw); (try go_split_ands); go_simp; first | done | with_reducible rfl
        try simp only [Act.put, List.getElem_toArray, List.getElem_cons_succ, List.getElem_cons_zero, List.setIfInBounds_toArray, List.set_cons_zero, List.set_cons_succ]
        refine wpAnyH_take (i := 5) (v := ?_) rfl (by kernel_rfl) (by kernel_rfl) (by kernel_rfl) (fun _ _ _ h => h) (Or.inl ⟨by first | kernel_rfl | rfl, ?_⟩) (by assumption) ?_
        rotate_left
        · intro w hSw; (try dsimp only at hSw); (try go_split_ands); go_simp; first | done | with_reducible rfl
        try simp only [Act.put, List.getElem_toArray, List.getElem_cons_succ, List.getElem_cons_zero, List.setIfInBounds_toArray, List.set_cons_zero, List.set_cons_succ]
        refine wpAnyH_ready (rs := [0, 2]) (by kernel_rfl) (by simp) ?_
        refine AllReadyH.cons rfl (fun K hK => ?_) (AllReadyH.cons rfl (fun K hK => ?_) AllReadyH.nil)
        · go_simp
          refine hK.out _ _ ?_ (fun hHeld => ?_)
          · exact ⟨q0, q1⟩
          clear hK K
          try simp only [Act.put, List.getElem_toArray, List.getElem_cons_succ, List.getElem_cons_zero, List.setIfInBounds_toArray, List.set_cons_zero, List.set_cons_succ]
          refine wpAnyH_ready (rs := [2]) (by kernel_rfl) (by simp) ?_
          refine AllReadyH.cons rfl (fun K hK => ?_) AllReadyH.nil
          go_simp
          go_at_call 178
          refine Calls.mono (hat _) ?_
          rintro e yy ⟨rfl, rfl⟩
          go_wp2_with fail
          refine hK.out _ _ ?_ (fun hHeld => ?_)
          · exact ⟨q0, q1⟩
          clear hK K
          try simp only [Act.put, List.getElem_toArray, List.getElem_cons_succ, List.getElem_cons_zero, List.setIfInBounds_toArray, List.set_cons_zero, List.set_cons_succ]
          refine wpAnyH_take (i := 3) (v := ?_) rfl (by kernel_rfl) (by kernel_rfl) (by kernel_rfl) (fun _ _ _ h => h) (Or.inl ⟨by first | kernel_rfl | rfl, ?_⟩) (by assumption) ?_
          rotate_left
          · intro w hSw; (try dsimp only at hSw); (try go_split_ands); go_simp; first | done | with_reducible rfl
          try simp only [Act.put, List.getElem_toArray, List.getElem_cons_succ, List.getElem_cons_zero, List.setIfInBounds_toArray, List.set_cons_zero, List.set_cons_succ]
          refine wpAnyH_ready (rs := [6]) (by kernel_rfl) (by simp) ?_
          refine AllReadyH.cons rfl (fun K hK => ?_) AllReadyH.nil
          go_simp
          go_at_call 156
          refine Calls.mono (rstoreS (hRx1.grow (grow_drew _)) (fun b hb => Nat.lt_of_lt_of_le (hX1 b hb) hzx1) (hf.store a p0).fine (a + 8) p1 (by omega)) ?_
          rintro e yx1 ⟨rv', rfl, hR6, hg6⟩
          obtain ⟨A2, n2, c2, B2, m2, d2, rfl⟩ := hR6.agg
          go_wp2_with fail
          have hB6 : yx1.heap[w.heap.size]? = some (.cells #[.slice A1 n1 c1, .slice B1 m1 d1] 67 (0, 0)) := Grow.heap hg6 (a := x1.drew) hBx1
          have hT6 : yx1.heap[w.heap.size + 1]? = some (.cells #[.slice none 0 0, .slice none 0 0] 67 (0, 0)) := Grow.heap hg6 (a := x1.drew) hTx1
          have hQ6 : yx1.heap[q]? = some (.cells #[.int .u64 (p0 : Int), .int .u64 (p1 : Int)] 37 (0, 0)) := Grow.heap hg6 (a := x1.drew) hQx1
          have hG6 : Grow w yx1 := Grow.trans (b := x1.drew) (Below.drew hGx1) hg6
          have hz6 : wa.heap.size ≤ yx1.heap.size := Nat.le_trans hzx1 hg6.size
          clear b0 b1 q0 q1 hg6
          refine hK.out _ _ ?_ (fun hHeld => ?_)
          · exact ⟨(cell_of_heap hQ6 0).trans rfl, (cell_of_heap hQ6 1).trans rfl⟩
          clear hK K
          try simp only [Act.put, List.getElem_toArray, List.getElem_cons_succ, List.getElem_cons_zero, List.setIfInBounds_toArray, List.set_cons_zero, List.set_cons_succ]
          have t0 : yx1.cell? ⟨w.heap.size, 0, none⟩ = some (.slice A1 n1 c1) := by rw [cell_of_heap hB6]; rfl
          have t1 : yx1.cell? ⟨w.heap.size, 1, none⟩ = some (.slice B1 m1 d1) := by rw [cell_of_heap hB6]; rfl
          have f0 := frozen_of_heap hB6 0
          have f1 := frozen_of_heap hB6 1
          have hBx2 := heap_same2 (a := .slice A2 n2 c2) (b := .slice B2 m2 d2) hB6
          have hTx2 := heap_set2 (a := .slice A2 n2 c2) (b := .slice B2 m2 d2) hT6 (show w.heap.size + 1 ≠ w.heap.size by omega)
          have hQx2 := heap_set2 (a := .slice A2 n2 c2) (b := .slice B2 m2 d2) hQ6 (show q ≠ w.heap.size by omega)
          have hRx2 := refS_set (q := w.heap.size) (a := .slice A2 n2 c2) (b := .slice B2 m2 d2) hR6 (.inr (.inl rfl))
          have hGx2 := grow_set2 (q := w.heap.size) (a := .slice A2 n2 c2) (b := .slice B2 m2 d2) hG6 (Nat.le_refl _)
          have hzx2 : wa.heap.size ≤ ((yx1.setCell ⟨w.heap.size, 0, none⟩ (.slice A2 n2 c2)).setCell ⟨w.heap.size, 1, none⟩ (.slice B2 m2 d2)).heap.size := by simpa [World.setCell] using hz6
          refine wpAnyH_ready (rs := [7]) (by kernel_rfl) (by simp) ?_
          refine AllReadyH.cons rfl (fun K hK => ?_) AllReadyH.nil
          go_simp
          refine hK.out _ _ ?_ (fun hHeld => ?_)
          · exact ⟨(cell_of_heap hQx2 0).trans rfl, (cell_of_heap hQx2 1).trans rfl⟩
          clear hK K
          try simp only [Act.put, List.getElem_toArray, List.getElem_cons_succ, List.getElem_cons_zero, List.setIfInBounds_toArray, List.set_cons_zero, List.set_cons_succ]
          refine wpAnyH_done (by kernel_rfl) ?_ _
          refine NoPanic.normal ?_
          clear t0 t1 f0 f1 hB6 hT6 hQ6 hR6 hG6 hz6 hBx1 hTx1 hQx1 hRx1 hGx1 hzx1
          generalize (yx1.setCell ⟨w.heap.size, 0, none⟩ (.slice A2 n2 c2)).setCell ⟨w.heap.size, 1, none⟩ (.slice B2 m2 d2) = x2 at *
          go_wp2
          have b0 : x2.drew.cell? ⟨w.heap.size, 0, none⟩ = some (.slice A2 n2 c2) := (cell_of_heap hBx2 0).trans rfl
          have b1 : x2.drew.cell? ⟨w.heap.size, 1, none⟩ = some (.slice B2 m2 d2) := (cell_of_heap hBx2 1).trans rfl
          refine region_plain (fun w' => w'.cell? ⟨w.heap.size, 0, none⟩ = some (.slice A2 n2 c2) ∧ w'.cell? ⟨w.heap.size, 1, none⟩ = some (.slice B2 m2 d2)) (by kernel_rfl) ⟨b0, b1⟩ (fun hHeld => ?_)
          refine wpAnyH_take (i := 0) (v := ?_) rfl (by kernel_rfl) (by kernel_rfl) (by kernel_rfl) (fun _ _ _ h => h) (Or.inl ⟨by first | kernel_rfl | rfl, ?_⟩) (by assumption) ?_
          rotate_left
          · intro w hSw; (try dsimp only at hSw); (try go_split_ands); go_simp; first | done | with_reducible rfl
          try simp only [Act.put, List.getElem_toArray, List.getElem_cons_zero, List.setIfInBounds_toArray, List.set_cons_zero, List.set_cons_succ]
          refine wpAnyH_take (i := 1) (v := ?_) rfl (by kernel_rfl) (by kernel_rfl) (by kernel_rfl) (fun _ _ _ h => h) (Or.inl ⟨by first | kernel_rfl | rfl, ?_⟩) (by assumption) ?_
          rotate_left
          · intro w hSw; (try dsimp only at hSw); (try go_split_ands); go_simp; first | done | with_reducible rfl
          try simp only [Act.put, List.getElem_toArray, List.getElem_cons_succ, List.getElem_cons_zero, List.setIfInBounds_toArray, List.set_cons_zero, List.set_cons_succ]
          refine wpAnyH_take (i := 4) (v := ?_) rfl (by kernel_rfl) (by kernel_rfl) (by kernel_rfl) (fun _ _ _ h => h) (Or.inl ⟨by first | kernel_rfl | rfl, ?_⟩) (by assumption) ?_
          rotate_left
          · intro w hSw; (try dsimp only at hSw); (try go_split_ands); go_simp; first | done | with_reducible rfl
          try simp only [Act.put, List.getElem_toArray, List.getElem_cons_succ, List.getElem_cons_zero, List.setIfInBounds_toArray, List.set_cons_zero, List.set_cons_succ]
          refine wpAnyH_ready (rs := [2]) (by kernel_rfl) (by simp) ?_
          refine AllReadyH.cons rfl (fun K hK => ?_) AllReadyH.nil
          go_simp
          go_at_call 178
          refine Calls.mono (hat _) ?_
          rintro e yy ⟨rfl, rfl⟩
          go_wp2_with fail
          refine hK.out _ _ ?_ (fun hHeld => ?_)
          · exact ⟨b0, b1⟩
          clear hK K
          try simp only [Act.put, List.getElem_toArray, List.getElem_cons_succ, List.getElem_cons_zero, List.setIfInBounds_toArray, List.set_cons_zero, List.set_cons_succ]
          refine wpAnyH_take (i := 3) (v := ?_) rfl (by kernel_rfl) (by kernel_rfl) (by kernel_rfl) (fun _ _ _ h => h) (Or.inl ⟨by first | kernel_rfl | rfl, ?_⟩) (by assumption) ?_
          rotate_left
          · intro w hSw; (try dsimp only at hSw); (try go_split_ands); go_simp; first | done | with_reducible rfl
          try simp only [Act.put, List.getElem_toArray, List.getElem_cons_succ, List.getElem_cons_zero, List.setIfInBounds_toArray, List.set_cons_zero, List.set_cons_succ]
          refine wpAnyH_ready (rs := [5]) (by kernel_rfl) (by simp) ?_
          refine AllReadyH.cons rfl (fun K hK => ?_) AllReadyH.nil
          go_simp
          go_at_call 156
          refine Calls.mono (rstoreS (hRx2.grow (grow_drew _)) (fun b hb => Nat.lt_of_lt_of_le (hX1 b hb) hzx2) ((hf.store a p0).store (a + 8) p1).fine (a + 16) off (by omega)) ?_
          rintro e yx2 ⟨rv', rfl, hR6, hg6⟩
          obtain ⟨A9, n9, c9, B9, m9, d9, rfl⟩ := hR6.agg
          go_wp2_with fail
          have hB6 : yx2.heap[w.heap.size]? = some (.cells #[.slice A2 n2 c2, .slice B2 m2 d2] 67 (0, 0)) := Grow.heap hg6 (a := x2.drew) hBx2
          have hT6 : yx2.heap[w.heap.size + 1]? = some (.cells #[.slice none 0 0, .slice none 0 0] 67 (0, 0)) := Grow.heap hg6 (a := x2.drew) hTx2
          have hG6 : Grow w yx2 := Grow.trans (b := x2.drew) (Below.drew hGx2) hg6
          clear b0 b1 hg6
          refine hK.out _ _ ?_ (fun hHeld => ?_)
          · exact ⟨(cell_of_heap hB6 0).trans rfl, (cell_of_heap hB6 1).trans rfl⟩
          clear hK K
          try simp only [Act.put, List.getElem_toArray, List.getElem_cons_succ, List.getElem_cons_zero, List.setIfInBounds_toArray, List.set_cons_zero, List.set_cons_succ]
          have t0 : yx2.cell? ⟨w.heap.size + 1, 0, none⟩ = some (.slice none 0 0) := by rw [cell_of_heap hT6]; rfl
          have t1 : yx2.cell? ⟨w.heap.size + 1, 1, none⟩ = some (.slice none 0 0) := by rw [cell_of_heap hT6]; rfl
          have f0 := frozen_of_heap hT6 0
          have f1 := frozen_of_heap hT6 1
          have hB7 := heap_set2 (a := .slice A9 n9 c9) (b := .slice B9 m9 d9) hB6 (show w.heap.size ≠ w.heap.size + 1 by omega)
          have r1 := heap_same2 (a := .slice A9 n9 c9) (b := .slice B9 m9 d9) hT6
          have r2 := refS_less (refS_set (q := w.heap.size + 1) (a := .slice A9 n9 c9) (b := .slice B9 m9 d9) hR6 (.inr (.inr rfl)))
          have r3 := grow_set2 (q := w.heap.size + 1) (a := .slice A9 n9 c9) (b := .slice B9 m9 d9) hG6 (by omega)
          have R1 := Lib.hid r1
          have R2 := Lib.hid r2
          have R3 := Lib.hid r3
          clear r1 r2 r3
          refine wpAnyH_ready (rs := [6]) (by kernel_rfl) (by simp) ?_
          refine AllReadyH.cons rfl (fun K hK => ?_) AllReadyH.nil
          go_simp
          refine hK.out _ _ ?_ (fun hHeld => ?_)
          · exact ⟨(cell_of_heap hB7 0).trans rfl, (cell_of_heap hB7 1).trans rfl⟩
          clear hK K
          try simp only [Act.put, List.getElem_toArray, List.getElem_cons_succ, List.getElem_cons_zero, List.setIfInBounds_toArray, List.set_cons_zero, List.set_cons_succ]
          refine wpAnyH_take (i := 7) (v := ?_) rfl (by kernel_rfl) (by kernel_rfl) (by kernel_rfl) (fun _ _ _ h => h) (Or.inl ⟨by first | kernel_rfl | rfl, ?_⟩) (by assumption) ?_
          rotate_left
          · intro w hSw; (try dsimp only at hSw); (try go_split_ands); go_simp; first | done | with_reducible rfl
          try simp only [Act.put, List.getElem_toArray, List.getElem_cons_succ, List.getElem_cons_zero, List.setIfInBounds_toArray, List.set_cons_zero, List.set_cons_succ]
          refine wpAnyH_done (by kernel_rfl) ?_ _
          refine NoPanic.normal ?_
          clear hB7 hB6 hT6 hR6 hG6 hBx2 hTx2 hQx2 hRx2 hGx2 hzx2
          go_wp2
          exact results_cell_tmp67 rfl rfl rfl R1.out rfl ⟨_, rfl, R2.out, R3.out⟩
        · go_simp
          go_at_call 178
          refine Calls.mono (hat _) ?_
          rintro e yy ⟨rfl, rfl⟩
          go_wp2_with fail
          refine hK.out _ _ ?_ (fun hHeld => ?_)
          · exact ⟨q0, q1⟩
          clear hK K
          try simp only [Act.put, List.getElem_toArray, List.getElem_cons_succ, List.getElem_cons_zero, List.setIfInBounds_toArray, List.set_cons_zero, List.set_cons_succ]
          refine wpAnyH_take (i := 3) (v := ?_) rfl (by kernel_rfl) (by kernel_rfl) (by kernel_rfl) (fun _ _ _ h => h) (Or.inl ⟨by first | kernel_rfl | rfl, ?_⟩) (by assumption) ?_
          rotate_left
          · intro w hSw; (try dsimp only at hSw); (try go_split_ands); go_simp; first | done | with_reducible rfl
          try simp only [Act.put, List.getElem_toArray, List.getElem_cons_succ, List.getElem_cons_zero, List.setIfInBounds_toArray, List.set_cons_zero, List.set_cons_succ]
          refine wpAnyH_ready (rs := [0]) (by kernel_rfl) (by simp) ?_
          refine AllReadyH.cons rfl (fun K hK => ?_) AllReadyH.nil
          go_simp
          refine hK.out _ _ ?_ (fun hHeld => ?_)
          · exact ⟨q0, q1⟩
          clear hK K
          try simp only [Act.put, List.getElem_toArray, List.getElem_cons_succ, List.getElem_cons_zero, List.setIfInBounds_toArray, List.set_cons_zero, List.set_cons_succ]
          refine wpAnyH_ready (rs := [6]) (by kernel_rfl) (by simp) ?_
          refine AllReadyH.cons rfl (fun K hK => ?_) AllReadyH.nil
          go_simp
          go_at_call 156
          refine Calls.mono (rstoreS (hRx1.grow (grow_drew _)) (fun b hb => Nat.lt_of_lt_of_le (hX1 b hb) hzx1) (hf.store a p0).fine (a + 8) p1 (by omega)) ?_
          rintro e yx1 ⟨rv', rfl, hR6, hg6⟩
          obtain ⟨A2, n2, c2, B2, m2, d2, rfl⟩ := hR6.agg
          go_wp2_with fail
          have hB6 : yx1.heap[w.heap.size]? = some (.cells #[.slice A1 n1 c1, .slice B1 m1 d1] 67 (0, 0)) := Grow.heap hg6 (a := x1.drew) hBx1
          have hT6 : yx1.heap[w.heap.size + 1]? = some (.cells #[.slice none 0 0, .slice none 0 0] 67 (0, 0)) := Grow.heap hg6 (a := x1.drew) hTx1
          have hQ6 : yx1.heap[q]? = some (.cells #[.int .u64 (p0 : Int), .int .u64 (p1 : Int)] 37 (0, 0)) := Grow.heap hg6 (a := x1.drew) hQx1
          have hG6 : Grow w yx1 := Grow.trans (b := x1.drew) (Below.drew hGx1) hg6
          have hz6 : wa.heap.size ≤ yx1.heap.size := Nat.le_trans hzx1 hg6.size
          clear b0 b1 q0 q1 hg6
          refine hK.out _ _ ?_ (fun hHeld => ?_)
          · exact ⟨(cell_of_heap hQ6 0).trans rfl, (cell_of_heap hQ6 1).trans rfl⟩
          clear hK K
          try simp only [Act.put, List.getElem_toArray, List.getElem_cons_succ, List.getElem_cons_zero, List.setIfInBounds_toArray, List.set_cons_zero, List.set_cons_succ]
          have t0 : yx1.cell? ⟨w.heap.size, 0, none⟩ = some (.slice A1 n1 c1) := by rw [cell_of_heap hB6]; rfl
          have t1 : yx1.cell? ⟨w.heap.size, 1, none⟩ = some (.slice B1 m1 d1) := by rw [cell_of_heap hB6]; rfl
          have f0 := frozen_of_heap hB6 0
          have f1 := frozen_of_heap hB6 1
          have hBx2 := heap_same2 (a := .slice A2 n2 c2) (b := .slice B2 m2 d2) hB6
          have hTx2 := heap_set2 (a := .slice A2 n2 c2) (b := .slice B2 m2 d2) hT6 (show w.heap.size + 1 ≠ w.heap.size by omega)
          have hQx2 := heap_set2 (a := .slice A2 n2 c2) (b := .slice B2 m2 d2) hQ6 (show q ≠ w.heap.size by omega)
          have hRx2 := refS_set (q := w.heap.size) (a := .slice A2 n2 c2) (b := .slice B2 m2 d2) hR6 (.inr (.inl rfl))
          have hGx2 := grow_set2 (q := w.heap.size) (a := .slice A2 n2 c2) (b := .slice B2 m2 d2) hG6 (Nat.le_refl _)
          have hzx2 : wa.heap.size ≤ ((yx1.setCell ⟨w.heap.size, 0, none⟩ (.slice A2 n2 c2)).setCell ⟨w.heap.size, 1, none⟩ (.slice B2 m2 d2)).heap.size := by simpa [World.setCell] using hz6
          refine wpAnyH_ready (rs := [7]) (by kernel_rfl) (by simp) ?_
          refine AllReadyH.cons rfl (fun K hK => ?_) AllReadyH.nil
          go_simp
          refine hK.out _ _ ?_ (fun hHeld => ?_)
          · exact ⟨(cell_of_heap hQx2 0).trans rfl, (cell_of_heap hQx2 1).trans rfl⟩
          clear hK K
          try simp only [Act.put, List.getElem_toArray, List.getElem_cons_succ, List.getElem_cons_zero, List.setIfInBounds_toArray, List.set_cons_zero, List.set_cons_succ]
          refine wpAnyH_done (by kernel_rfl) ?_ _
          refine NoPanic.normal ?_
          clear t0 t1 f0 f1 hB6 hT6 hQ6 hR6 hG6 hz6 hBx1 hTx1 hQx1 hRx1 hGx1 hzx1
          generalize (yx1.setCell ⟨w.heap.size, 0, none⟩ (.slice A2 n2 c2)).setCell ⟨w.heap.size, 1, none⟩ (.slice B2 m2 d2) = x2 at *
          go_wp2
          have b0 : x2.drew.cell? ⟨w.heap.size, 0, none⟩ = some (.slice A2 n2 c2) := (cell_of_heap hBx2 0).trans rfl
          have b1 : x2.drew.cell? ⟨w.heap.size, 1, none⟩ = some (.slice B2 m2 d2) := (cell_of_heap hBx2 1).trans rfl
          refine region_plain (fun w' => w'.cell? ⟨w.heap.size, 0, none⟩ = some (.slice A2 n2 c2) ∧ w'.cell? ⟨w.heap.size, 1, none⟩ = some (.slice B2 m2 d2)) (by kernel_rfl) ⟨b0, b1⟩ (fun hHeld => ?_)
          refine wpAnyH_take (i := 0) (v := ?_) rfl (by kernel_rfl) (by kernel_rfl) (by kernel_rfl) (fun _ _ _ h => h) (Or.inl ⟨by first | kernel_rfl | rfl, ?_⟩) (by assumption) ?_
          rotate_left
          · intro w hSw; (try dsimp only at hSw); (try go_split_ands); go_simp; first | done | with_reducible rfl
          try simp only [Act.put, List.getElem_toArray, List.getElem_cons_zero, List.setIfInBounds_toArray, List.set_cons_zero, List.set_cons_succ]
          refine wpAnyH_take (i := 1) (v := ?_) rfl (by kernel_rfl) (by kernel_rfl) (by kernel_rfl) (fun _ _ _ h => h) (Or.inl ⟨by first | kernel_rfl | rfl, ?_⟩) (by assumption) ?_
          rotate_left
          · intro w hSw; (try dsimp only at hSw); (try go_split_ands); go_simp; first | done | with_reducible rfl
          try simp only [Act.put, List.getElem_toArray, List.getElem_cons_succ, List.getElem_cons_zero, List.setIfInBounds_toArray, List.set_cons_zero, List.set_cons_succ]
          refine wpAnyH_take (i := 4) (v := ?_) rfl (by kernel_rfl) (by kernel_rfl) (by kernel_rfl) (fun _ _ _ h => h) (Or.inl ⟨by first | kernel_rfl | rfl, ?_⟩) (by assumption) ?_
          rotate_left
          · intro w hSw; (try dsimp only at hSw); (try go_split_ands); go_simp; first | done | with_reducible rfl
          try simp only [Act.put, List.getElem_toArray, List.getElem_cons_succ, List.getElem_cons_zero, List.setIfInBounds_toArray, List.set_cons_zero, List.set_cons_succ]
          refine wpAnyH_ready (rs := [2]) (by kernel_rfl) (by simp) ?_
          refine AllReadyH.cons rfl (fun K hK => ?_) AllReadyH.nil
          go_simp
          go_at_call 178
          refine Calls.mono (hat _) ?_
          rintro e yy ⟨rfl, rfl⟩
          go_wp2_with fail
          refine hK.out _ _ ?_ (fun hHeld => ?_)
          · exact ⟨b0, b1⟩
          clear hK K
          try simp only [Act.put, List.getElem_toArray, List.getElem_cons_succ, List.getElem_cons_zero, List.setIfInBounds_toArray, List.set_cons_zero, List.set_cons_succ]
          refine wpAnyH_take (i := 3) (v := ?_) rfl (by kernel_rfl) (by kernel_rfl) (by kernel_rfl) (fun _ _ _ h => h) (Or.inl ⟨by first | kernel_rfl | rfl, ?_⟩) (by assumption) ?_
          rotate_left
          · intro w hSw; (try dsimp only at hSw); (try go_split_ands); go_simp; first | done | with_reducible rfl
          try simp only [Act.put, List.getElem_toArray, List.getElem_cons_succ, List.getElem_cons_zero, List.setIfInBounds_toArray, List.set_cons_zero, List.set_cons_succ]
          refine wpAnyH_ready (rs := [5]) (by kernel_rfl) (by simp) ?_
          refine AllReadyH.cons rfl (fun K hK => ?_) AllReadyH.nil
          go_simp
          go_at_call 156
          refine Calls.mono (rstoreS (hRx2.grow (grow_drew _)) (fun b hb => Nat.lt_of_lt_of_le (hX1 b hb) hzx2) ((hf.store a p0).store (a + 8) p1).fine (a + 16) off (by omega)) ?_
          rintro e yx2 ⟨rv', rfl, hR6, hg6⟩
          obtain ⟨A9, n9, c9, B9, m9, d9, rfl⟩ := hR6.agg
          go_wp2_with fail
          have hB6 : yx2.heap[w.heap.size]? = some (.cells #[.slice A2 n2 c2, .slice B2 m2 d2] 67 (0, 0)) := Grow.heap hg6 (a := x2.drew) hBx2
          have hT6 : yx2.heap[w.heap.size + 1]? = some (.cells #[.slice none 0 0, .slice none 0 0] 67 (0, 0)) := Grow.heap hg6 (a := x2.drew) hTx2
          have hG6 : Grow w yx2 := Grow.trans (b := x2.drew) (Below.drew hGx2) hg6
          clear b0 b1 hg6
          refine hK.out _ _ ?_ (fun hHeld => ?_)
          · exact ⟨(cell_of_heap hB6 0).trans rfl, (cell_of_heap hB6 1).trans rfl⟩
          clear hK K
          try simp only [Act.put, List.getElem_toArray, List.getElem_cons_succ, List.getElem_cons_zero, List.setIfInBounds_toArray, List.set_cons_zero, List.set_cons_succ]
          have t0 : yx2.cell? ⟨w.heap.size + 1, 0, none⟩ = some (.slice none 0 0) := by rw [cell_of_heap hT6]; rfl
          have t1 : yx2.cell? ⟨w.heap.size + 1, 1, none⟩ = some (.slice none 0 0) := by rw [cell_of_heap hT6]; rfl
          have f0 := frozen_of_heap hT6 0
          have f1 := frozen_of_heap hT6 1
          have hB7 := heap_set2 (a := .slice A9 n9 c9) (b := .slice B9 m9 d9) hB6 (show w.heap.size ≠ w.heap.size + 1 by omega)
          have r1 := heap_same2 (a := .slice A9 n9 c9) (b := .slice B9 m9 d9) hT6
          have r2 := refS_less (refS_set (q := w.heap.size + 1) (a := .slice A9 n9 c9) (b := .slice B9 m9 d9) hR6 (.inr (.inr rfl)))
          have r3 := grow_set2 (q := w.heap.size + 1) (a := .slice A9 n9 c9) (b := .slice B9 m9 d9) hG6 (by omega)
          have R1 := Lib.hid r1
          have R2 := Lib.hid r2
          have R3 := Lib.hid r3
          clear r1 r2 r3
          refine wpAnyH_ready (rs := [6]) (by kernel_rfl) (by simp) ?_
          refine AllReadyH.cons rfl (fun K hK => ?_) AllReadyH.nil
          go_simp
          refine hK.out _ _ ?_ (fun hHeld => ?_)
          · exact ⟨(cell_of_heap hB7 0).trans rfl, (cell_of_heap hB7 1).trans rfl⟩
          clear hK K
          try simp only [Act.put, List.getElem_toArray, List.getElem_cons_succ, List.getElem_cons_zero, List.setIfInBounds_toArray, List.set_cons_zero, List.set_cons_succ]
          refine wpAnyH_take (i := 7) (v := ?_) rfl (by kernel_rfl) (by kernel_rfl) (by kernel_rfl) (fun _ _ _ h => h) (Or.inl ⟨by first | kernel_rfl | rfl, ?_⟩) (by assumption) ?_
          rotate_left
          · intro w hSw; (try dsimp only at hSw); (try go_split_ands); go_simp; first | done | with_reducible rfl
          try simp only [Act.put, List.getElem_toArray, List.getElem_cons_succ, List.getElem_cons_zero, List.setIfInBounds_toArray, List.set_cons_zero, List.set_cons_succ]
          refine wpAnyH_done (by kernel_rfl) ?_ _
          refine NoPanic.normal ?_
          clear hB7 hB6 hT6 hR6 hG6 hBx2 hTx2 hQx2 hRx2 hGx2 hzx2
          go_wp2
          exact results_cell_tmp67 rfl rfl rfl R1.out rfl ⟨_, rfl, R2.out, R3.out⟩
  · have hP : putE σ.load s off = roomE σ.load s := by unfold putE; rw [if_neg hE]
    have hS : putS σ s off = σ := by unfold putS; rw [hP, if_neg hE]
    rw [hP, hS]
    generalize roomE σ.load s = E at *
    have tlt : ((E : Int) != 0) = true := by rw [bne_iff_ne]; omega
    clear hP hS hE h
    go_enter Try.func175, Try.ntmps175
    go_wp2_with fail
    refine hrm.mono ?_
    rintro e w3 ⟨rfl, hgF⟩
    have hB2 := hgF.heap hB
    have hT2 := hgF.heap hT
    have h2 := h1.grow hgF
    have hgz := hga.trans hgF
    clear hrm hB hT h1 hX1 a0 a1
    have b0 : w3.cell? ⟨w.heap.size, 0, none⟩ = some (.slice A n c') := by rw [cell_of_heap hB2]; rfl
    have b1 : w3.cell? ⟨w.heap.size, 1, none⟩ = some (.slice B m d) := by rw [cell_of_heap hB2]; rfl
    have t0 : w3.cell? ⟨w.heap.size + 1, 0, none⟩ = some (.slice none 0 0) := by rw [cell_of_heap hT2]; rfl
    have t1 : w3.cell? ⟨w.heap.size + 1, 1, none⟩ = some (.slice none 0 0) := by rw [cell_of_heap hT2]; rfl
    have f0 := frozen_of_heap hT2 0
    have f1 := frozen_of_heap hT2 1
    have r1 := heap_same2 (a := .slice A n c') (b := .slice B m d) hT2
    have r2 := refS_less (refS_set (q := w.heap.size + 1) (a := .slice A n c') (b := .slice B m d) h2 (.inr (.inr rfl)))
    have r3 := grow_set2 (q := w.heap.size + 1) (a := .slice A n c') (b := .slice B m d) hgz (by omega)
    have R1 := Lib.hid r1
    have R2 := Lib.hid r2
    have R3 := Lib.hid r3
    clear r1 r2 r3 h2 hgz hB2 hT2
    go_wp2
    exact results_cell_tmp67 rfl rfl rfl R1.out rfl ⟨_, rfl, R2.out, R3.out⟩
end Go.Proofs.Ck

namespace Go.Proofs.Ck
open Go Go.RowKit

set_option maxRecDepth 100000 in
set_option maxHeartbeats 2000000 in
theorem rnamed_call {rv : Value} {f : Nat → Nat} {w : World} {X : Nat → Prop} (hr : RefF rv f w X) (q : Nat) (hq : q < 18446744073709551616) :
    Calls Try.prog 135 #[rv, .int .u64 (q : Int)] w fun e w' => e = .returned (.bool (namedB f q)) ∧ Grow w w' := by
  obtain ⟨A, n, c', B, m, d, rfl⟩ := hr.agg
  have hga : Grow w (w.alloc (.cells #[.slice A n c', .slice B m d] 67)) := (Below.refl _ _).alloc (Nat.le_refl _) _
  have hB := World.alloc_heap_new w (.cells #[.slice A n c', .slice B m d] 67)
  have h1 := hr.grow hga
  clear hr
  by_cases hq1 : 1 < q
  · have t1 : decide ((1 : Int) < q) = true := decide_eq_true (by omega)
    go_enter Try.func135, Try.ntmps135
    go_wp2_with fail
    generalize w.alloc (.cells #[.slice A n c', .slice B m d] 67) = w1 at *
    go_loopw [5] (fun i wr => ∃ k : Nat, k ≤ 16 ∧ i = .int .i64 (k : Int) ∧ Grow w1 wr ∧ Hid (∀ j, j < k → ¬ (f (sl j + 16) = q ∧ 1 < q))) (fun i _ => 16 - (intOf i).toNat)
    case atStart => exact ⟨0, Nat.zero_le _, rfl, Below.refl _ _, Lib.hid (fun j hj => absurd hj (by omega))⟩
    case round =>
      obtain ⟨k, hk, rfl, hg, h0⟩ := hrel
      by_cases hlt : k < 16
      · have hBr := hg.heap hB
        have b0 : wr.cell? ⟨w.heap.size, 0, none⟩ = some (.slice A n c') := by rw [cell_of_heap hBr]; rfl
        have b1 : wr.cell? ⟨w.heap.size, 1, none⟩ = some (.slice B m d) := by rw [cell_of_heap hBr]; rfl
        have hld := fun w' (hg' : Grow w1 w') => (h1.grow hg').load (sl k + 16) (by unfold sl; omega)
        have hat := fun w => rat_call w k hlt
        have hal : sl k < 3776 := by unfold sl; omega
        have hyes := fun (h2 : f (sl k + 16) = q) => namedB_true hlt hq1 h2
        have hno := fun (h2 : ¬ f (sl k + 16) = q) => show ∀ j, j < k + 1 → ¬ (f (sl j + 16) = q ∧ 1 < q) from fun j hj => by
          by_cases e : j = k
          · rw [e]; exact fun hh => h2 hh.1
          · exact h0.out j (by omega)
        have KK := Lib.hid (⟨hyes, hno⟩ : _ ∧ _)
        clear hyes hno h0
        generalize f (sl k + 16) = P at *
        generalize sl k = a at *
        have e16 : IntKind.u64.wrap ((a : Int) + 16) = ((a + 16 : Nat) : Int) := by rw [IntKind.wrap_u64]; omega
        have g0 : decide ((k : Int) < 16) = true := decide_eq_true (by omega)
        obtain ⟨tb, t0⟩ : ∃ b, ((P : Int) == (q : Int)) = b := ⟨_, rfl⟩
        go_wp2
        go_region_held3 (fun w' => w'.cell? ⟨w.heap.size, 0, none⟩ = some (.slice A n c') ∧ w'.cell? ⟨w.heap.size, 1, none⟩ = some (.slice B m d) ∧ Grow w1 w')
          (first | exact ⟨b0, b1, hg.drew⟩ | assumption | exact ⟨(cell_of_heap (hgz.heap hB) 0).trans rfl, (cell_of_heap (hgz.heap hB) 1).trans rfl, hgz⟩)
          (first
            | (go_at_call 178; go_split_ands; refine Calls.mono (hat _) ?_; rintro e wn ⟨rfl, rfl⟩)
            | (go_at_call 157; go_split_ands; refine Calls.mono (hld _ (by assumption)) ?_; rintro e wn ⟨rfl, hgn⟩; have hgz := Grow.trans (a := w1) (by assumption) hgn))
        clear b0 b1 hBr hld hat e16
        cases tb
        · have hne : ¬ P = q := by have := (beq_eq_false_iff_ne).1 t0; omega
          have HN := KK.out.2 hne
          have HM := Lib.hid HN
          clear HN hne
          go_wp2
          go_roundw
          case rel => exact ⟨k + 1, by omega, by go_num, hgz, HM⟩
          case measure => simp [intOf]; omega
        · have he : P = q := by have := (beq_iff_eq).1 t0; omega
          have HR := Lib.hid (KK.out.1 he)
          clear he
          go_wp2
          go_ret
          exact ⟨by rw [HR.out]; rfl, hga.trans hgz⟩
      · obtain rfl : k = 16 := by omega
        have g0 : decide (((16 : Nat) : Int) < 16) = false := decide_eq_false (by omega)
        have HR := Lib.hid (namedB_false h0.out)
        clear h0
        go_wp2
        go_ret
        exact ⟨by rw [HR.out]; rfl, hga.trans hg⟩
  · have t1 : decide ((1 : Int) < q) = false := decide_eq_false (by omega)
    have hres : namedB f q = false := namedB_false fun j _ hh => hq1 hh.2
    rw [hres]
    clear hres hq1
    go_enter Try.func135, Try.ntmps135
    go_wp2_with fail
    generalize w.alloc (.cells #[.slice A n c', .slice B m d] 67) = w1 at *
    go_loopw [5] (fun i wr => ∃ k : Nat, k ≤ 16 ∧ i = .int .i64 (k : Int) ∧ Grow w1 wr) (fun i _ => 16 - (intOf i).toNat)
    case atStart => exact ⟨0, Nat.zero_le _, rfl, Below.refl _ _⟩
    case round =>
      obtain ⟨k, hk, rfl, hg⟩ := hrel
      by_cases hlt : k < 16
      · have g0 : decide ((k : Int) < 16) = true := decide_eq_true (by omega)
        go_wp2
        refine region_plain (fun w' => True) (by kernel_rfl) trivial (fun hHeld => ?_)
        refine wpAnyH_take (i := 0) (v := ?_) rfl (by kernel_rfl) (by kernel_rfl) (by kernel_rfl) (fun _ _ _ h => h) (Or.inl ⟨by first | kernel_rfl | rfl, ?_⟩) (by assumption) ?_
        rotate_left
        · intro w hSw; (try dsimp only at hSw); (try go_split_ands); go_simp; first | done | with_reducible rfl
        try simp only [Act.put, List.getElem_toArray, List.getElem_cons_zero, List.setIfInBounds_toArray, List.set_cons_zero, List.set_cons_succ]
        refine wpAnyH_take (i := 1) (v := ?_) rfl (by kernel_rfl) (by kernel_rfl) (by kernel_rfl) (fun _ _ _ h => h) (Or.inl ⟨by first | kernel_rfl | rfl, ?_⟩) (by assumption) ?_
        rotate_left
        · intro w hSw; (try dsimp only at hSw); (try go_split_ands); go_simp; first | done | with_reducible rfl
        try simp only [Act.put, List.getElem_toArray, List.getElem_cons_succ, List.getElem_cons_zero, List.setIfInBounds_toArray, List.set_cons_zero, List.set_cons_succ]
        refine wpAnyH_take (i := 2) (v := ?_) rfl (by kernel_rfl) (by kernel_rfl) (by kernel_rfl) (fun _ _ _ h => h) (Or.inl ⟨by first | kernel_rfl | rfl, ?_⟩) (by assumption) ?_
        rotate_left
        · intro w hSw; (try dsimp only at hSw); (try go_split_ands); go_simp; first | done | with_reducible rfl
        try simp only [Act.put, List.getElem_toArray, List.getElem_cons_succ, List.getElem_cons_zero, List.setIfInBounds_toArray, List.set_cons_zero, List.set_cons_succ]
        refine wpAnyH_take (i := 3) (v := undef) rfl (by kernel_rfl) (by kernel_rfl) (by kernel_rfl) (fun _ _ _ h => h) (Or.inr ⟨by first | kernel_rfl | rfl, rfl⟩) (by assumption) ?_
        try simp only [Act.put, List.getElem_toArray, List.getElem_cons_succ, List.getElem_cons_zero, List.setIfInBounds_toArray, List.set_cons_zero, List.set_cons_succ]
        refine wpAnyH_take (i := 4) (v := undef) rfl (by kernel_rfl) (by kernel_rfl) (by kernel_rfl) (fun _ _ _ h => h) (Or.inr ⟨by first | kernel_rfl | rfl, rfl⟩) (by assumption) ?_
        try simp only [Act.put, List.getElem_toArray, List.getElem_cons_succ, List.getElem_cons_zero, List.setIfInBounds_toArray, List.set_cons_zero, List.set_cons_succ]
        refine wpAnyH_take (i := 5) (v := undef) rfl (by kernel_rfl) (by kernel_rfl) (by kernel_rfl) (fun _ _ _ h => h) (Or.inr ⟨by first | kernel_rfl | rfl, rfl⟩) (by assumption) ?_
        try simp only [Act.put, List.getElem_toArray, List.getElem_cons_succ, List.getElem_cons_zero, List.setIfInBounds_toArray, List.set_cons_zero, List.set_cons_succ]
        refine wpAnyH_take (i := 6) (v := undef) rfl (by kernel_rfl) (by kernel_rfl) (by kernel_rfl) (fun _ _ _ h => h) (Or.inr ⟨by first | kernel_rfl | rfl, rfl⟩) (by assumption) ?_
        try simp only [Act.put, List.getElem_toArray, List.getElem_cons_succ, List.getElem_cons_zero, List.setIfInBounds_toArray, List.set_cons_zero, List.set_cons_succ]
        refine wpAnyH_take (i := 7) (v := undef) rfl (by kernel_rfl) (by kernel_rfl) (by kernel_rfl) (fun _ _ _ h => h) (Or.inr ⟨by first | kernel_rfl | rfl, rfl⟩) (by assumption) ?_
        try simp only [Act.put, List.getElem_toArray, List.getElem_cons_succ, List.getElem_cons_zero, List.setIfInBounds_toArray, List.set_cons_zero, List.set_cons_succ]
        refine wpAnyH_take (i := 8) (v := undef) rfl (by kernel_rfl) (by kernel_rfl) (by kernel_rfl) (fun _ _ _ h => h) (Or.inr ⟨by first | kernel_rfl | rfl, rfl⟩) (by assumption) ?_
        try simp only [Act.put, List.getElem_toArray, List.getElem_cons_succ, List.getElem_cons_zero, List.setIfInBounds_toArray, List.set_cons_zero, List.set_cons_succ]
        refine wpAnyH_take (i := 9) (v := undef) rfl (by kernel_rfl) (by kernel_rfl) (by kernel_rfl) (fun _ _ _ h => h) (Or.inr ⟨by first | kernel_rfl | rfl, rfl⟩) (by assumption) ?_
        try simp only [Act.put, List.getElem_toArray, List.getElem_cons_succ, List.getElem_cons_zero, List.setIfInBounds_toArray, List.set_cons_zero, List.set_cons_succ]
        refine wpAnyH_take (i := 10) (v := ?_) rfl (by kernel_rfl) (by kernel_rfl) (by kernel_rfl) (fun _ _ _ h => h) (Or.inl ⟨by first | kernel_rfl | rfl, ?_⟩) (by assumption) ?_
        rotate_left
        · intro w hSw; (try dsimp only at hSw); (try go_split_ands); go_simp; first | done | with_reducible rfl
        try simp only [Act.put, List.getElem_toArray, List.getElem_cons_succ, List.getElem_cons_zero, List.setIfInBounds_toArray, List.set_cons_zero, List.set_cons_succ]
        refine wpAnyH_done (by kernel_rfl) ?_ _
        refine NoPanic.normal ?_
        go_wp2
        go_roundw
        case rel => exact ⟨k + 1, by omega, by go_num, hg.drew⟩
        case measure => simp [intOf]; omega
      · obtain rfl : k = 16 := by omega
        have g0 : decide (((16 : Nat) : Int) < 16) = false := decide_eq_false (by omega)
        go_wp2
        go_ret
        exact ⟨rfl, hga.trans hg⟩

theorem info225 : (Try.prog.info? 225).map (fun i => (i.zero, i.size, i.bytes)) = some (some (.agg #[.string ByteArray.empty, .int .u64 0]), 2, 24) := by kernel_rfl
set_option maxRecDepth 100000 in
set_option maxHeartbeats 4000000 in
theorem rdall_call {rv : Value} {f : Nat → Nat} {w : World} {X : Nat → Prop} (hr : RefF rv f w X) (hfl : ∀ o, f o < 18446744073709551616) :
    Calls Try.prog 133 #[rv] w fun e w' => ∃ A c, e = .returned (.slice A (entsN f 16).length c) ∧ Row (fun b => w.heap.size ≤ b) w' A (entsN f 16).length 2 (ents (entsN f 16)) ∧ Grow w w' := by
  obtain ⟨A, n, c', B, m, d, rfl⟩ := hr.agg
  obtain ⟨i225, hi3, hz3, hs3, hb3⟩ := info_parts info225
  have hga : Grow w (w.alloc (.cells #[.slice A n c', .slice B m d] 67)) := (Below.refl _ _).alloc (Nat.le_refl _) _
  have hB := World.alloc_heap_new w (.cells #[.slice A n c', .slice B m d] 67)
  have h1 := hr.grow hga
  clear hr
  go_enter Try.func133, Try.ntmps133
  go_wp2_with fail
  generalize w.alloc (.cells #[.slice A n c', .slice B m d] 67) = w1 at *
  go_loopw [3, 4] (fun s i wr => ∃ k : Nat, k ≤ 16 ∧ i = .int .i64 (k : Int) ∧ Grow w1 wr ∧ wr.ownsRow w1.heap.size 225 2 s (entsN f k).length (ents (entsN f k))) (fun _ i _ => 16 - (intOf i).toNat)
  case atStart => exact ⟨0, Nat.zero_le _, rfl, Below.refl _ _, World.ownsRow_nil _ _ _ _⟩
  case round =>
    obtain ⟨k, hk, rfl, hg, hown⟩ := hrel
    by_cases hlt : k < 16
    · have hBr := hg.heap hB
      have b0 : wr.cell? ⟨w.heap.size, 0, none⟩ = some (.slice A n c') := by rw [cell_of_heap hBr]; rfl
      have b1 : wr.cell? ⟨w.heap.size, 1, none⟩ = some (.slice B m d) := by rw [cell_of_heap hBr]; rfl
      have hld := fun w' (hg' : Grow w1 w') => (h1.grow hg').load (sl k + 16) (by unfold sl; omega)
      have hd0 := fun w' (hg' : Grow w1 w') => (h1.grow hg').load (sl k) (by unfold sl; omega)
      have hd8 := fun w' (hg' : Grow w1 w') => (h1.grow hg').load (sl k + 8) (by unfold sl; omega)
      have hat := fun w => rat_call w k hlt
      have hal : sl k < 3776 := by unfold sl; omega
      have hln := ents_len f k
      have hnm := fun W => rname_call W (f (sl k)) (f (sl k + 8)) (hfl _) (hfl _)
      obtain ⟨L', hL'⟩ : ∃ L, entsN f (k + 1) = L := ⟨_, rfl⟩
      have hH := ents_hit (f := f) (k := k)
      have hM := ents_miss (f := f) (k := k)
      rw [hL'] at hH hM
      have HL := Lib.hid hL'
      clear hL'
      generalize entsN f k = L at *
      generalize f (sl k + 16) = P at *
      generalize f (sl k + 8) = y8 at *
      generalize f (sl k) = y0 at *
      generalize sl k = a at *
      generalize nameOf y0 y8 = nmv at *
      obtain ⟨z, hz⟩ : ∃ z, decide (isName y0 y8) = z := ⟨_, rfl⟩
      rw [hz] at hnm
      have hH' : 1 < P ∧ z = true → L' = L ++ [(nmv, P)] := fun hh => hH ⟨hh.1, of_decide_eq_true (hz.trans hh.2)⟩
      have hM' : ¬ (1 < P ∧ z = true) → L' = L := fun hh => hM fun hc => hh ⟨hc.1, hz.symm.trans (decide_eq_true hc.2)⟩
      have KK := Lib.hid (⟨hH', hM'⟩ : _ ∧ _)
      clear hH' hM' hH hM hz hfl
      have e8 : IntKind.u64.wrap ((a : Int) + 8) = ((a + 8 : Nat) : Int) := by rw [IntKind.wrap_u64]; omega
      have e16 : IntKind.u64.wrap ((a : Int) + 16) = ((a + 16 : Nat) : Int) := by rw [IntKind.wrap_u64]; omega
      have g0 : decide ((k : Int) < 16) = true := decide_eq_true (by omega)
      obtain ⟨tb, t1⟩ : ∃ b, decide ((1 : Int) < P) = b := ⟨_, rfl⟩
      go_wp2
      go_region_held3 (fun w' => w'.cell? ⟨w.heap.size, 0, none⟩ = some (.slice A n c') ∧ w'.cell? ⟨w.heap.size, 1, none⟩ = some (.slice B m d) ∧ Grow w1 w')
        (first | exact ⟨b0, b1, hg.drew⟩ | assumption | exact ⟨(cell_of_heap (hgz.heap hB) 0).trans rfl, (cell_of_heap (hgz.heap hB) 1).trans rfl, hgz⟩)
        (first
          | (go_at_call 178; go_split_ands; refine Calls.mono (hat _) ?_; rintro e wn ⟨rfl, rfl⟩)
          | (go_at_call 157; go_split_ands; refine Calls.mono (hld _ (by assumption)) ?_; rintro e wn ⟨rfl, hgn⟩; have hgz := Grow.trans (a := w1) (by assumption) hgn))
      have hown2 := own_grow (own_grow hown (grow_drew _)) hgn
      clear hld hown b0 b1 hBr hg hgn e16
      have b0 : wn.cell? ⟨w.heap.size, 0, none⟩ = some (.slice A n c') := by rw [cell_of_heap (hgz.heap hB)]; rfl
      have b1 : wn.cell? ⟨w.heap.size, 1, none⟩ = some (.slice B m d) := by rw [cell_of_heap (hgz.heap hB)]; rfl
      go_wp2
      refine region_plain (fun w' => w'.cell? ⟨w.heap.size, 0, none⟩ = some (.slice A n c') ∧ w'.cell? ⟨w.heap.size, 1, none⟩ = some (.slice B m d)) (by kernel_rfl) ⟨b0, b1⟩ (fun hHeld => ?_)
      refine wpAnyH_take (i := 0) (v := ?_) rfl (by kernel_rfl) (by kernel_rfl) (by kernel_rfl) (fun _ _ _ h => h) (Or.inl ⟨by first | kernel_rfl | rfl, ?_⟩) (by assumption) ?_
      rotate_left
      · intro w hSw; (try dsimp only at hSw); (try go_split_ands); go_simp; first | done | with_reducible rfl
      try simp only [Act.put, List.getElem_toArray, List.getElem_cons_zero, List.setIfInBounds_toArray, List.set_cons_zero, List.set_cons_succ]
      refine wpAnyH_take (i := 1) (v := ?_) rfl (by kernel_rfl) (by kernel_rfl) (by kernel_rfl) (fun _ _ _ h => h) (Or.inl ⟨by first | kernel_rfl | rfl, ?_⟩) (by assumption) ?_
      rotate_left
      · intro w hSw; (try dsimp only at hSw); (try go_split_ands); go_simp; first | done | with_reducible rfl
      try simp only [Act.put, List.getElem_toArray, List.getElem_cons_succ, List.getElem_cons_zero, List.setIfInBounds_toArray, List.set_cons_zero, List.set_cons_succ]
      refine wpAnyH_take (i := 4) (v := ?_) rfl (by kernel_rfl) (by kernel_rfl) (by kernel_rfl) (fun _ _ _ h => h) (Or.inl ⟨by first | kernel_rfl | rfl, ?_⟩) (by assumption) ?_
      rotate_left
      · intro w hSw; (try dsimp only at hSw); (try go_split_ands); go_simp; first | done | with_reducible rfl
      try simp only [Act.put, List.getElem_toArray, List.getElem_cons_succ, List.getElem_cons_zero, List.setIfInBounds_toArray, List.set_cons_zero, List.set_cons_succ]
      refine wpAnyH_take (i := 5) (v := ?_) rfl (by kernel_rfl) (by kernel_rfl) (by kernel_rfl) (fun _ _ _ h => h) (Or.inl ⟨by first | kernel_rfl | rfl, ?_⟩) (by assumption) ?_
      rotate_left
      · intro w hSw; (try dsimp only at hSw); (try go_split_ands); go_simp; first | done | with_reducible rfl
      try simp only [Act.put, List.getElem_toArray, List.getElem_cons_succ, List.getElem_cons_zero, List.setIfInBounds_toArray, List.set_cons_zero, List.set_cons_succ]
      refine wpAnyH_ready (rs := [2]) (by kernel_rfl) (by simp) ?_
      refine AllReadyH.cons rfl (fun K hK => ?_) AllReadyH.nil
      go_simp
      go_at_call 178
      refine Calls.mono (hat _) ?_
      rintro e y1 ⟨rfl, rfl⟩
      go_wp2_with fail
      refine hK.out _ _ ?_ (fun hHeld => ?_)
      · exact ⟨b0, b1⟩
      clear hK K
      try simp only [Act.put, List.getElem_toArray, List.getElem_cons_succ, List.getElem_cons_zero, List.setIfInBounds_toArray, List.set_cons_zero, List.set_cons_succ]
      refine wpAnyH_ready (rs := [3]) (by kernel_rfl) (by simp) ?_
      refine AllReadyH.cons rfl (fun K hK => ?_) AllReadyH.nil
      go_simp
      go_at_call 157
      refine Calls.mono (hd0 _ (Below.drew hgz)) ?_
      rintro e y2 ⟨rfl, hg2⟩
      replace hgz : Grow w1 y2 := Grow.trans (b := wn.drew) (Below.drew hgz) hg2
      replace hown2 := own_grow (own_grow hown2 (grow_drew _)) hg2
      go_wp2_with fail
      refine hK.out _ _ ?_ (fun hHeld => ?_)
      · exact ⟨(cell_of_heap (hgz.heap hB) 0).trans rfl, (cell_of_heap (hgz.heap hB) 1).trans rfl⟩
      clear hK K
      try simp only [Act.put, List.getElem_toArray, List.getElem_cons_succ, List.getElem_cons_zero, List.setIfInBounds_toArray, List.set_cons_zero, List.set_cons_succ]
      refine wpAnyH_ready (rs := [6]) (by kernel_rfl) (by simp) ?_
      refine AllReadyH.cons rfl (fun K hK => ?_) AllReadyH.nil
      go_simp
      go_at_call 178
      refine Calls.mono (hat _) ?_
      rintro e y3 ⟨rfl, rfl⟩
      go_wp2_with fail
      refine hK.out _ _ ?_ (fun hHeld => ?_)
      · exact ⟨(cell_of_heap (hgz.heap hB) 0).trans rfl, (cell_of_heap (hgz.heap hB) 1).trans rfl⟩
      clear hK K
      try simp only [Act.put, List.getElem_toArray, List.getElem_cons_succ, List.getElem_cons_zero, List.setIfInBounds_toArray, List.set_cons_zero, List.set_cons_succ]
      refine wpAnyH_take (i := 7) (v := ?_) rfl (by kernel_rfl) (by kernel_rfl) (by kernel_rfl) (fun _ _ _ h => h) (Or.inl ⟨by first | kernel_rfl | rfl, ?_⟩) (by assumption) ?_
      rotate_left
      · intro w hSw; (try dsimp only at hSw); (try go_split_ands); go_simp; first | done | with_reducible rfl
      try simp only [Act.put, List.getElem_toArray, List.getElem_cons_succ, List.getElem_cons_zero, List.setIfInBounds_toArray, List.set_cons_zero, List.set_cons_succ]
      refine wpAnyH_ready (rs := [8]) (by kernel_rfl) (by simp) ?_
      refine AllReadyH.cons rfl (fun K hK => ?_) AllReadyH.nil
      go_simp
      go_at_call 157
      refine Calls.mono (hd8 _ hgz) ?_
      rintro e y4 ⟨rfl, hg4⟩
      replace hgz := hgz.trans hg4
      replace hown2 := own_grow hown2 hg4
      go_wp2_with fail
      refine hK.out _ _ ?_ (fun hHeld => ?_)
      · exact ⟨(cell_of_heap (hgz.heap hB) 0).trans rfl, (cell_of_heap (hgz.heap hB) 1).trans rfl⟩
      clear hK K
      try simp only [Act.put, List.getElem_toArray, List.getElem_cons_succ, List.getElem_cons_zero, List.setIfInBounds_toArray, List.set_cons_zero, List.set_cons_succ]
      refine wpAnyH_take (i := 9) (v := ?_) rfl (by kernel_rfl) (by kernel_rfl) (by kernel_rfl) (fun _ _ _ h => h) (Or.inl ⟨by first | kernel_rfl | rfl, ?_⟩) (by assumption) ?_
      rotate_left
      · intro w hSw; (try dsimp only at hSw); (try go_split_ands); go_simp; first | done | with_reducible rfl
      try simp only [Act.put, List.getElem_toArray, List.getElem_cons_succ, List.getElem_cons_zero, List.setIfInBounds_toArray, List.set_cons_zero, List.set_cons_succ]
      refine wpAnyH_ready (rs := [10]) (by kernel_rfl) (by simp) ?_
      refine AllReadyH.cons rfl (fun K hK => ?_) AllReadyH.nil
      go_simp
      go_at_call 67
      refine Calls.mono (hnm _) ?_
      rintro e y5 ⟨rfl, hg5⟩
      replace hgz := hgz.trans hg5
      replace hown2 := own_grow hown2 hg5
      go_wp2_with fail
      refine hK.out _ _ ?_ (fun hHeld => ?_)
      · exact ⟨(cell_of_heap (hgz.heap hB) 0).trans rfl, (cell_of_heap (hgz.heap hB) 1).trans rfl⟩
      clear hK K
      try simp only [Act.put, List.getElem_toArray, List.getElem_cons_succ, List.getElem_cons_zero, List.setIfInBounds_toArray, List.set_cons_zero, List.set_cons_succ]
      refine wpAnyH_take (i := 11) (v := ?_) rfl (by kernel_rfl) (by kernel_rfl) (by kernel_rfl) (fun _ _ _ h => h) (Or.inl ⟨by first | kernel_rfl | rfl, ?_⟩) (by assumption) ?_
      rotate_left
      · intro w hSw; (try dsimp only at hSw); (try go_split_ands); go_simp; first | done | with_reducible rfl
      try simp only [Act.put, List.getElem_toArray, List.getElem_cons_succ, List.getElem_cons_zero, List.setIfInBounds_toArray, List.set_cons_zero, List.set_cons_succ]
      refine wpAnyH_take (i := 12) (v := ?_) rfl (by kernel_rfl) (by kernel_rfl) (by kernel_rfl) (fun _ _ _ h => h) (Or.inl ⟨by first | kernel_rfl | rfl, ?_⟩) (by assumption) ?_
      rotate_left
      · intro w hSw; (try dsimp only at hSw); (try go_split_ands); go_simp; first | done | with_reducible rfl
      try simp only [Act.put, List.getElem_toArray, List.getElem_cons_succ, List.getElem_cons_zero, List.setIfInBounds_toArray, List.set_cons_zero, List.set_cons_succ]
      refine wpAnyH_take (i := 13) (v := ?_) rfl (by kernel_rfl) (by kernel_rfl) (by kernel_rfl) (fun _ _ _ h => h) (Or.inl ⟨by first | kernel_rfl | rfl, ?_⟩) (by assumption) ?_
      rotate_left
      · intro w hSw; (try dsimp only at hSw); (try go_split_ands); go_simp; first | done | with_reducible rfl
      try simp only [Act.put, List.getElem_toArray, List.getElem_cons_succ, List.getElem_cons_zero, List.setIfInBounds_toArray, List.set_cons_zero, List.set_cons_succ]
      refine wpAnyH_take (i := 14) (v := ?_) rfl (by kernel_rfl) (by kernel_rfl) (by kernel_rfl) (fun _ _ _ h => h) (Or.inl ⟨by first | kernel_rfl | rfl, ?_⟩) (by assumption) ?_
      rotate_left
      · intro w hSw; (try dsimp only at hSw); (try go_split_ands); go_simp; first | done | with_reducible rfl
      try simp only [Act.put, List.getElem_toArray, List.getElem_cons_succ, List.getElem_cons_zero, List.setIfInBounds_toArray, List.set_cons_zero, List.set_cons_succ]
      refine wpAnyH_take (i := 15) (v := ?_) rfl (by kernel_rfl) (by kernel_rfl) (by kernel_rfl) (fun _ _ _ h => h) (Or.inl ⟨by first | kernel_rfl | rfl, ?_⟩) (by assumption) ?_
      rotate_left
      · intro w hSw; (try dsimp only at hSw); (try go_split_ands); go_simp; first | done | with_reducible rfl
      try simp only [Act.put, List.getElem_toArray, List.getElem_cons_succ, List.getElem_cons_zero, List.setIfInBounds_toArray, List.set_cons_zero, List.set_cons_succ]
      refine wpAnyH_done (by kernel_rfl) ?_ _
      refine NoPanic.normal ?_
      clear b0 b1 hd0 hd8 hat hnm hg2 hg4 hg5 e8
      have hbase := hgz.size
      cases tb
      · have HE := Lib.hid (KK.out.2 (fun hh => by have := of_decide_eq_false t1; omega))
        go_wp2
        go_roundw
        case rel => exact ⟨k + 1, by omega, by go_num, hgz, by rw [HL.out, HE.out]; exact hown2⟩
        case measure => simp [intOf]; omega
      · have hP1 : 1 < P := by have := of_decide_eq_true t1; omega
        cases z
        · have HE := Lib.hid (KK.out.2 (fun hh => by cases hh.2))
          clear hP1
          go_wp2
          go_roundw
          case rel => exact ⟨k + 1, by omega, by go_num, hgz, by rw [HL.out, HE.out]; exact hown2⟩
          case measure => simp [intOf]; omega
        · have HE := Lib.hid (KK.out.1 ⟨hP1, rfl⟩)
          clear hP1
          go_wp2_with (at_builtin; refine wpList_push y5 rfl (.tmp 36) (.tmp 40) 154 rfl w1.heap.size 225 i225 _ 2 24 Try.underlying154 hi3 hz3 hs3 hb3 rfl (by decide) u3 L.length _ rfl hown2 #[.string nmv, .int .u64 (P : Int)] rfl rfl (by simp [Value.oneCell']) rfl (by unfold maxLen; omega) (by omega) hbase ?_)
          intro v' w6 hown6 ho6
          obtain ⟨A6, c6, rfl⟩ : ∃ A c, v' = .slice A (L.length + 1) c := by
            obtain ⟨g, c, _, e, _⟩ := own_form hown6 (by omega)
            exact ⟨_, c, e⟩
          have hg6 : Grow w1 w6 := grow_own hgz hown2 ho6
          clear hown2 ho6
          go_wp2
          go_roundw
          case rel =>
            refine ⟨k + 1, by omega, by go_num, hg6, ?_⟩
            rw [HL.out, HE.out, List.length_append, ents_snoc]
            exact hown6
          case measure => simp [intOf]; omega
    · obtain rfl : k = 16 := by omega
      have g0 : decide (((16 : Nat) : Int) < 16) = false := decide_eq_false (by omega)
      obtain ⟨Z, m, rfl, -, -, hr⟩ := Row.of_own hown
      clear hown
      go_wp2
      go_ret
      exact ⟨Z, m, rfl, hr.mono fun b _ hb => Nat.le_trans hga.size hb, hga.trans hg⟩
end Go.Proofs.Ck
