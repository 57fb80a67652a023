/- Parts of the proofs of this seat's laws. -/
import Derived.Test.YtpakfelekphbmaaGSeg
import Derived.Deep.RegionHeld3
import Derived.Test.YtpakfelekphbmaaGDir
import Derived.Test.YtpakfelekphbmaaAll
import Derived.Test.YtpakfelekphbmaaGGr
import Derived.Test.YtpakfelekphbmaaLawRow
import Derived.Test.YtpakfelekphbmaaPuts

namespace Go.Proofs.Ck
open Go Go.RowKit

section
variable {P : Program} {ops : Array Oper} {md : Region.Mode} {Q : Exit → Act → World → Prop} {S : World → Prop} {l : Nat}

/-- No operation is a defer statement. -/
def noDeferB (ops : Array Oper) : Bool := ops.toList.all fun o => match o.op with | .defer _ => false | _ => true
theorem noDefer_spec (h : noDeferB ops = true) {i : Nat} {o : Oper} (ho : ops[i]? = some o) : ∀ c, o.op ≠ .defer c := by
  intro c e
  unfold noDeferB at h
  have hm : o ∈ ops.toList := by
    rw [Array.mem_toList_iff]
    exact Array.mem_of_getElem? ho
  have := List.all_eq_true.1 h o hm
  rw [e] at this
  cases this

theorem rowsIn_wide {n : Nat} {row : String} {args : Array Value} {w : World} {R : Value → World → Prop} (h : Rows P row args w R) : RowsIn Fence.wide n P row args w R := by
  intro c cs _
  obtain ⟨v, w', r, s⟩ := h c cs
  exact ⟨v, w', r, stepsIn_wide.2 s⟩

theorem wpOpIn_round (hd : noDeferB ops = true) (hQ : ¬ LetsOut Q) {i : Nat} {K : Act → World → Prop} {a : Act} {w : World} (h : wpOp P ops Q i K a w) : wpOpIn (Fence.wide.inRound l) 0 P ops Q i K a w := by
  unfold wpOp at h
  unfold wpOpIn
  cases ho : ops[i]? with
  | none => rw [ho] at h; exact h
  | some o =>
    rw [ho] at h
    simp only at h ⊢
    split
    · next hw =>
      rw [if_pos hw] at h
      rcases h with h | ⟨_, h⟩
      · refine ⟨fun _ _ => trivial, ?_⟩
        rw [Oper.semAt_eq _ _ _ (noDefer_spec hd ho)]
        unfold Oper.wp at h
        generalize (execOp a.eval o).run P w = r at h ⊢
        cases r with
        | ok x w' =>
          cases x <;> simp only [Oper.upon, Oper.uponIn] at h ⊢ <;>
            first
              | exact h
              | exact ⟨fun hh => (by cases hh), (callsIn_wide (n := 0)).2 h⟩
              | exact ⟨fun hh => (by cases hh), rowsIn_wide h⟩
        | halt x w' => cases x <;> simp only [Oper.upon, Oper.uponIn] at h ⊢ <;> exact h
      · exact absurd h hQ
    · next hw =>
      rw [if_neg hw] at h
      exact ⟨fun _ _ => trivial, h⟩

theorem wpAnyIn_round (hd : noDeferB ops = true) (hQ : ¬ LetsOut Q) : ∀ (fuel : Nat) (listed : Array Bool) (a : Act) (w : World), wpAny P md ops Q fuel listed a w → wpAnyIn (Fence.wide.inRound l) 0 P md ops Q fuel listed a w
  | 0, _, _, _, h => h
  | fuel + 1, _, _, _, h => ⟨h.1, fun i hi => wpOpIn_mono (fun a' w' h' => wpAnyIn_round hd hQ fuel _ a' w' h') (wpOpIn_round hd hQ (h.2 i hi))⟩

/-- Q, but nothing at a panic, nor where memory runs out. -/
def Calm (Q : Exit → Act → World → Prop) : Exit → Act → World → Prop
  | .panic _, _, _ => False
  | .outgrown, _, _ => False
  | e, a, w => Q e a w
theorem Calm.imp : ∀ (e : Exit) (a : Act) (w : World), Calm Q e a w → Q e a w := fun e a w h => by
  cases e <;> first | exact h | exact (h : False).elim
theorem Calm.normal {a : Act} {w : World} (h : Q .normal a w) : Calm Q .normal a w := h
theorem calm_out : ¬ LetsOut (Calm Q) := by
  rintro ⟨a, w, h⟩
  exact h
/-- THE RULE. -/
theorem region_round {id : Nat} {a : Act} {w : World} (S : World → Prop) (hm : P.follows .mixedOrders = true) (hd : noDeferB ops = true) (hS : S w.drew)
    (h : S w.drew → wpAnyH P .any ops (Calm Q) S ops.size (Array.replicate ops.size false) a w.drew) : (Code.region id ops true).wpIn (Fence.wide.inRound l) 0 P Q a w :=
  wpIn_mono (wpIn_region_any hm (wpAnyIn_round hd calm_out _ _ _ _ (wpAny_of_held _ _ _ _ (h hS)))) Calm.imp
/-- The same outside a range over a function. -/
theorem region_plain {id : Nat} {a : Act} {w : World} (S : World → Prop) (hm : P.follows .mixedOrders = true) (hS : S w.drew)
    (h : S w.drew → wpAnyH P .any ops (NoPanic Q) S ops.size (Array.replicate ops.size false) a w.drew) : (Code.region id ops true).wp P Q a w :=
  wp_region_noPanic (wp_region_held_drew (S := S) hm hS h)
end
end Go.Proofs.Ck

namespace Go.Proofs.Ck
open Go Go.RowKit

theorem pack64 (s : ByteArray) (w : World) : Calls Try.prog 64 #[.string s] w fun e w' => e = .returned (.tuple #[.agg #[.int .u64 (n0 s : Int), .int .u64 (n1 s : Int)], .bool (okN s)]) ∧ Grow w w' := by
  unfold n0 n1
  by_cases h : okN s = true
  · obtain ⟨h1, h15⟩ := (okN_iff s).1 h
    rw [if_pos h, if_pos h, h]
    exact pack_ok s h1 h15 w
  · have hf : okN s = false := by simpa using h
    rw [if_neg h, if_neg h, hf]
    exact pack_bad s (by have := mt (okN_iff s).2 h; omega) w
theorem pack65 (s : ByteArray) (w : World) : Calls Try.prog 65 #[.string s] w fun e w' => e = .returned (.tuple #[.agg #[.int .u64 (n0 s : Int), .int .u64 (n1 s : Int)], .bool (okN s)]) ∧ Grow w w' := by
  unfold n0 n1
  by_cases h : okN s = true
  · obtain ⟨h1, h15⟩ := (okN_iff s).1 h
    rw [if_pos h, if_pos h, h]
    exact rpack_ok s h1 h15 w
  · have hf : okN s = false := by simpa using h
    rw [if_neg h, if_neg h, hf]
    exact rpack_bad s (by have := mt (okN_iff s).2 h; omega) w

theorem way_call (w : World) (p : Option Addr) (n : Int) : Calls Try.prog 180 #[.pointer p, .int .u64 n] w fun e w' => ∃ B C, e = .returned (.func (.func 200) #[] #[.pointer (some ⟨C, 0, none⟩), .pointer (some ⟨B, 0, none⟩)]) ∧
    w.heap.size ≤ B ∧ w.heap.size ≤ C ∧ B ≠ C ∧ w'.heap[B]? = some (.cells #[.pointer p] 65 (0, 0)) ∧ w'.heap[C]? = some (.cells #[.int .u64 n] 22 (0, 0)) ∧ Grow w w' := by
  go_enter Try.func180, Try.ntmps180
  go_wp2
  go_ret
  refine ⟨w.heap.size, w.heap.size + 1, rfl, Nat.le_refl _, by omega, by omega, (Below.heap_alloc _ _ _ (by simp)).trans (World.alloc_heap_new w _), ?_, ((Below.refl _ _).alloc (Nat.le_refl _) _).alloc (by simp) _⟩
  have := World.alloc_heap_new (w.alloc (.cells #[.pointer p] 65)) (.cells #[.int .u64 n] 22)
  rwa [World.size_alloc] at this

attribute [local go_sem] Oper.semAt_some wide_fn wide_depth wide_in_fn wide_in_depth
set_option maxRecDepth 100000 in
set_option maxHeartbeats 1000000 in
theorem way_iter {w : World} {v : Value} {f : Nat → Nat} (h : TxAny w v f) (n : Nat) (hn : n < 18446744073709551616) (B C : Nat) (W0 : World) (hB : W0.heap[B]? = some (.cells #[v] 65 (0, 0)))
    (hC : W0.heap[C]? = some (.cells #[.int .u64 (n : Int)] 22 (0, 0))) (hs : ∀ b, b < w.heap.size → W0.heap[b]? = w.heap[b]?) :
    Iter Try.prog 200 #[.pointer (some ⟨C, 0, none⟩), .pointer (some ⟨B, 0, none⟩)] 16 (fun i => #[.int .u64 ((sl (n + i) : Nat) : Int), .int .u64 ((pay f n i : Nat) : Int)]) (fun b => b < w.heap.size ∨ b = B ∨ b = C) W0 := by
  intro l J Jx W hWz hT hJ hY hJx h0
  obtain ⟨p, rfl⟩ := h.ptr
  have e1 : IntKind.u64.wrap ((n : Int) % 16) = ((n % 16 : Nat) : Int) := by rw [IntKind.wrap_u64]; omega
  have e2 : (n : Int) % 16 = ((n % 16 : Nat) : Int) := by omega
  have e3 : (n : Int).tmod 16 = ((n % 16 : Nat) : Int) := by rw [Int.tmod_eq_emod_of_nonneg (by omega)]; omega
  have e4 : IntKind.u64.wrap ((n % 16 : Nat) : Int) = ((n % 16 : Nat) : Int) := by rw [IntKind.wrap_u64]; omega
  refine callsIn_of_wp Try.func200 rfl trivial ?_ rfl
  simp only [Try.ntmps200, List.size_toArray, List.length_cons, List.length_nil, Nat.reduceAdd, Nat.reduceSub, Array.replicate_succ, Array.replicate_zero, List.push_toArray, List.append_toArray, List.nil_append, List.cons_append]
  gi_wp2
  gi_loopw [6] (fun i wr => ∃ k : Nat, k ≤ 16 ∧ i = .int .u64 (k : Int) ∧ J k wr ∧ (∀ x, (x < w.heap.size ∨ x = B ∨ x = C) → wr.heap[x]? = W0.heap[x]?))
    (fun i _ => 16 - (intOf i).toNat)
  case atStart => exact ⟨0, Nat.zero_le _, rfl, h0, hT⟩
  case round =>
    obtain ⟨k, hk, rfl, hJs, hTr⟩ := hrel
    have hBr : wr.heap[B]? = some (.cells #[.pointer p] 65 (0, 0)) := (hTr B (.inr (.inl rfl))).trans hB
    have hCr : wr.heap[C]? = some (.cells #[.int .u64 (n : Int)] 22 (0, 0)) := (hTr C (.inr (.inr rfl))).trans hC
    have hc0 : wr.cell? ⟨B, 0, none⟩ = some (.pointer p) := by rw [cell_of_heap hBr]; rfl
    have hc1 : wr.cell? ⟨C, 0, none⟩ = some (.int .u64 (n : Int)) := by rw [cell_of_heap hCr]; rfl
    by_cases hlt : k < 16
    · have hld := load_txany (h.keep (W := wr) (fun b hb => (hTr b (.inl hb)).trans (hs b hb))) (sl (n + k) + 16) (by unfold sl; omega)
      have hsl := slot_call wr (n % 16 + k) (by omega)
      rw [show 3392 + 24 * ((n % 16 + k) % 16) = sl (n + k) from by unfold sl; omega] at hsl
      have hYk := fun w1 => hY k w1 hlt
      have ha : sl (n + k) < 3776 := by unfold sl; omega
      clear hY
      unfold pay at hYk
      generalize f (sl (n + k) + 16) = y at *
      generalize sl (n + k) = a at *
      have hr : n % 16 < 16 := by omega
      generalize n % 16 = r at *
      have e5 : IntKind.u64.wrap ((r : Int) + (k : Int)) = ((r + k : Nat) : Int) := by rw [IntKind.wrap_u64]; omega
      have e6 : IntKind.u64.wrap ((a : Int) + 16) = ((a + 16 : Nat) : Int) := by rw [IntKind.wrap_u64]; omega
      have g0 : decide ((k : Int) < 16) = true := decide_eq_true (by omega)
      generalize a + 16 = a16 at *
      generalize r + k = m at *
      gi_wp2_with fail
      refine (ranged hsl).mono ?_
      rintro e w1 ⟨rfl, rfl⟩
      gi_wp2_with fail
      refine (ranged hld).mono ?_
      rintro e w1 ⟨rfl, hg⟩
      obtain ⟨fn, tmps, assign, body, hy, hR⟩ := hYk w1 (hJ _ _ _ hJs hg)
      have hszB := lt_of_heap hBr
      have hszC := lt_of_heap hCr
      have hT1 : ∀ x, (x < w.heap.size ∨ x = B ∨ x = C) → w1.heap[x]? = wr.heap[x]? := fun x hx => hg.block x (by
        rcases hx with hx | rfl | rfl
        · have h1 := hTr x (.inl hx); rw [hs x hx] at h1
          exact (Array.getElem?_eq_some_iff.1 (h1.trans (Array.getElem?_eq_getElem hx))).1
        · exact hszB
        · exact hszC)
      gi_wp2
      refine hR.mono ?_
      rintro e W3 ⟨hz3, hT3, (⟨rfl, hJ3⟩ | ⟨rfl, hJx3⟩)⟩
      · gi_wp2
        go_roundw
        case rel => exact ⟨k + 1, by omega, by go_num, hJ3, fun x hx => (hT3 x hx).trans ((hT1 x hx).trans (hTr x hx))⟩
        case measure => simp [intOf]; omega
      · gi_wp2
        refine bodyPost_ret (results_none rfl _ _ _) rfl ?_
        exact ⟨⟨_, rfl⟩, .inr ⟨k, hlt, hJx3⟩⟩
    · obtain rfl : k = 16 := by omega
      have g0 : decide (((16 : Nat) : Int) < 16) = false := decide_eq_false (by omega)
      gi_wp2
      go_end0
      exact ⟨⟨_, rfl⟩, .inl hJs⟩
end Go.Proofs.Ck

namespace Go.Proofs.Ck
open Go Go.RowKit

theorem turn_some {f : Nat → Nat} {h w0 w1 i : Nat} (hi : i < 16) (h1 : halt f h w0 w1 i = true) (h2 : ∀ j, j < i → halt f h w0 w1 j = false) :
    standN f h w0 w1 = (if pay f h i = 0 then 0 else sl (h + i)) ∧ spotN f h w0 w1 = roomN f h (i + 1) := by
  have ht : turnN f h w0 w1 = some i := find_range.2 ⟨hi, h1, h2⟩
  unfold standN spotN
  rw [ht]
  exact ⟨rfl, rfl⟩
theorem turn_none {f : Nat → Nat} {h w0 w1 : Nat} (h2 : ∀ j, j < 16 → halt f h w0 w1 j = false) :
    standN f h w0 w1 = 0 ∧ spotN f h w0 w1 = roomN f h 16 := by
  have ht : turnN f h w0 w1 = none := find_none.2 h2
  unfold standN spotN
  rw [ht]
  exact ⟨rfl, rfl⟩
theorem roomN_lt (f : Nat → Nat) (h k : Nat) : roomN f h k < 18446744073709551616 := by
  unfold roomN
  split
  · unfold sl; omega
  · omega
theorem results_cells22 {fn : Func} {tmps : Array Value} {p q : Tmp} {W : World} {g h : Nat} {x y : Int} {fr fr' : Nat × Nat} (hf : fn.results = #[.cell p 22, .cell q 22])
    (hp : tmps.getD p undef = .pointer (some ⟨g, 0, none⟩)) (hq : tmps.getD q undef = .pointer (some ⟨h, 0, none⟩)) (hg : W.heap[g]? = some (.cells #[.int .u64 x] 22 fr)) (hh : W.heap[h]? = some (.cells #[.int .u64 y] 22 fr')) :
    (results fn tmps).run Try.prog W = .ok (.tuple #[.int .u64 x, .int .u64 y]) W := by
  have hp' : tmps[p]?.getD undef = .pointer (some ⟨g, 0, none⟩) := by simpa using hp
  have hq' : tmps[q]?.getD undef = .pointer (some ⟨h, 0, none⟩) := by simpa using hq
  have c0 : W.cell? ⟨g, 0, none⟩ = some (.int .u64 x) := by rw [cell_of_heap hg]; rfl
  have c1 : W.cell? ⟨h, 0, none⟩ = some (.int .u64 y) := by rw [cell_of_heap hh]; rfl
  simp only [results, hf]
  go_simp

attribute [local go_sem] Oper.semAt_some wide_fn wide_depth wide_in_fn wide_in_depth
set_option maxRecDepth 100000 in
set_option maxHeartbeats 2000000 in
theorem look_bad {w : World} {v : Value} {f : Nat → Nat} (h : TxAny w v f) (s : ByteArray) (hok : ¬ okN s = true) :
    Calls Try.prog 176 #[v, .string s] w fun e w' => e = .returned (.tuple #[.int .u64 (standS f s : Int), .int .u64 (spotS f s : Int)]) ∧ Grow w w' := by
  obtain ⟨p, rfl⟩ := h.ptr
  obtain ⟨wa, hwa⟩ : ∃ wa, ((w.alloc (.cells #[.pointer p] 65)).alloc (.cells #[.int .u64 0] 22)).alloc (.cells #[.int .u64 0] 22) = wa := ⟨_, rfl⟩
  have hga : Grow w wa := by rw [← hwa]; exact (((Below.refl _ _).alloc (Nat.le_refl _) _).alloc (by simp) _).alloc (by simp; omega) _
  have hB : wa.heap[w.heap.size]? = some (.cells #[.pointer p] 65 (0, 0)) := by
    rw [← hwa]; exact (Below.heap_alloc _ _ _ (by simp; omega)).trans ((Below.heap_alloc _ _ _ (by simp)).trans (World.alloc_heap_new w _))
  have hS : wa.heap[w.heap.size + 1]? = some (.cells #[.int .u64 0] 22 (0, 0)) := by
    have := World.alloc_heap_new (w.alloc (.cells #[.pointer p] 65)) (.cells #[.int .u64 0] 22)
    rw [World.size_alloc] at this
    rw [← hwa]; exact (Below.heap_alloc _ _ _ (by simp)).trans this
  have hR : wa.heap[w.heap.size + 1 + 1]? = some (.cells #[.int .u64 0] 22 (0, 0)) := by
    have := World.alloc_heap_new ((w.alloc (.cells #[.pointer p] 65)).alloc (.cells #[.int .u64 0] 22)) (.cells #[.int .u64 0] 22)
    rw [World.size_alloc, World.size_alloc] at this
    rw [← hwa]; exact this
  have hpk := pack64 s
  unfold standS spotS
  rw [if_neg hok, if_neg hok]
  rw [show okN s = false from by simpa using hok] at hpk
  refine calls_of_range Try.func176 rfl ?_
  simp only [Try.ntmps176, List.size_toArray, List.length_cons, List.length_nil, Nat.reduceAdd, Nat.reduceSub, Array.replicate_succ, Array.replicate_zero, List.push_toArray, List.append_toArray, List.nil_append, List.cons_append]
  gi_wp2_with fail
  refine (ranged (hpk wa)).mono ?_
  rintro e w1 ⟨rfl, hg1⟩
  clear hpk hwa
  have hB1 := (Below.heap_alloc w1 (.cells #[.int .u64 (n0 s : Int), .int .u64 (n1 s : Int)] 37) _ (lt_of_heap (hg1.heap hB))).trans (hg1.heap hB)
  have hS1 := (Below.heap_alloc w1 (.cells #[.int .u64 (n0 s : Int), .int .u64 (n1 s : Int)] 37) _ (lt_of_heap (hg1.heap hS))).trans (hg1.heap hS)
  have hR1 := (Below.heap_alloc w1 (.cells #[.int .u64 (n0 s : Int), .int .u64 (n1 s : Int)] 37) _ (lt_of_heap (hg1.heap hR))).trans (hg1.heap hR)
  have hW1 := World.alloc_heap_new w1 (.cells #[.int .u64 (n0 s : Int), .int .u64 (n1 s : Int)] 37)
  have hG1 := hga.trans (hg1.trans ((Below.refl _ _).alloc (Nat.le_refl _) (.cells #[.int .u64 (n0 s : Int), .int .u64 (n1 s : Int)] 37)))
  have hz1 : w.heap.size + 1 + 1 < w1.heap.size := lt_of_heap (hg1.heap hR)
  clear hB hS hR hga hg1
  have f0 := frozen_of_heap hS1 0
  have f1 := frozen_of_heap hR1 0
  have c0 : (w1.alloc (.cells #[.int .u64 (n0 s : Int), .int .u64 (n1 s : Int)] 37)).cell? ⟨w.heap.size + 1, 0, none⟩ = some (.int .u64 0) := by rw [cell_of_heap hS1]; rfl
  have c1 : (w1.alloc (.cells #[.int .u64 (n0 s : Int), .int .u64 (n1 s : Int)] 37)).cell? ⟨w.heap.size + 1 + 1, 0, none⟩ = some (.int .u64 0) := by rw [cell_of_heap hR1]; rfl
  gi_wp2
  have hS2 := heap_setCell_row hS1 (i := 0) (.int .u64 0)
  have hR2 := heap_setCell_row hR1 (i := 0) (.int .u64 0)
  refine marks_none (results_cells22 (g := w.heap.size + 1) (h := w.heap.size + 1 + 1) (x := 0) (y := 0) (fr := (0, 0)) (fr' := (0, 0)) rfl rfl rfl ?_ ?_) ⟨rfl, ?_⟩
  · exact (Below.heap_setCell _ _ _ _ (by simp)).trans hS2
  · exact heap_setCell_row ((Below.heap_setCell _ _ _ _ (by simp)).trans hR1) (i := 0) (.int .u64 0)
  · exact (hG1.setCell (by simp) _).setCell (by simp; omega) _

set_option maxRecDepth 100000 in
set_option maxHeartbeats 2000000 in
theorem look_ok {w : World} {v : Value} {f : Nat → Nat} (h : TxAny w v f) (s : ByteArray) (p0 p1 H : Nat) (_hn0 : p0 < 18446744073709551616) (_hn1 : p1 < 18446744073709551616) (hhl : H < 18446744073709551616)
    (hpk : ∀ w, Calls Try.prog 64 #[.string s] w fun e w' => e = .returned (.tuple #[.agg #[.int .u64 (p0 : Int), .int .u64 (p1 : Int)], .bool true]) ∧ Grow w w')
    (hh : ∀ w, Calls Try.prog 62 #[.string s] w fun e w' => e = .returned (.int .u64 (H : Int)) ∧ w = w') :
    Calls Try.prog 176 #[v, .string s] w fun e w' => e = .returned (.tuple #[.int .u64 (standN f H p0 p1 : Int), .int .u64 (spotN f H p0 p1 : Int)]) ∧ Grow w w' := by
  obtain ⟨p, rfl⟩ := h.ptr
  obtain ⟨wa, hwa⟩ : ∃ wa, ((w.alloc (.cells #[.pointer p] 65)).alloc (.cells #[.int .u64 0] 22)).alloc (.cells #[.int .u64 0] 22) = wa := ⟨_, rfl⟩
  have hga : Grow w wa := by rw [← hwa]; exact (((Below.refl _ _).alloc (Nat.le_refl _) _).alloc (by simp) _).alloc (by simp; omega) _
  have hB : wa.heap[w.heap.size]? = some (.cells #[.pointer p] 65 (0, 0)) := by
    rw [← hwa]; exact (Below.heap_alloc _ _ _ (by simp; omega)).trans ((Below.heap_alloc _ _ _ (by simp)).trans (World.alloc_heap_new w _))
  have hS : wa.heap[w.heap.size + 1]? = some (.cells #[.int .u64 0] 22 (0, 0)) := by
    have := World.alloc_heap_new (w.alloc (.cells #[.pointer p] 65)) (.cells #[.int .u64 0] 22)
    rw [World.size_alloc] at this
    rw [← hwa]; exact (Below.heap_alloc _ _ _ (by simp)).trans this
  have hR : wa.heap[w.heap.size + 1 + 1]? = some (.cells #[.int .u64 0] 22 (0, 0)) := by
    have := World.alloc_heap_new ((w.alloc (.cells #[.pointer p] 65)).alloc (.cells #[.int .u64 0] 22)) (.cells #[.int .u64 0] 22)
    rw [World.size_alloc, World.size_alloc] at this
    rw [← hwa]; exact this
  refine calls_of_range Try.func176 rfl ?_
  simp only [Try.ntmps176, List.size_toArray, List.length_cons, List.length_nil, Nat.reduceAdd, Nat.reduceSub, Array.replicate_succ, Array.replicate_zero, List.push_toArray, List.append_toArray, List.nil_append, List.cons_append]
  gi_wp2_with fail
  refine (ranged (hpk wa)).mono ?_
  rintro e w1 ⟨rfl, hg1⟩
  clear hpk hwa
  have hB1 := (Below.heap_alloc w1 (.cells #[.int .u64 (p0 : Int), .int .u64 (p1 : Int)] 37) _ (lt_of_heap (hg1.heap hB))).trans (hg1.heap hB)
  have hS1 := (Below.heap_alloc w1 (.cells #[.int .u64 (p0 : Int), .int .u64 (p1 : Int)] 37) _ (lt_of_heap (hg1.heap hS))).trans (hg1.heap hS)
  have hR1 := (Below.heap_alloc w1 (.cells #[.int .u64 (p0 : Int), .int .u64 (p1 : Int)] 37) _ (lt_of_heap (hg1.heap hR))).trans (hg1.heap hR)
  have hW1 := World.alloc_heap_new w1 (.cells #[.int .u64 (p0 : Int), .int .u64 (p1 : Int)] 37)
  have hG1 := hga.trans (hg1.trans ((Below.refl _ _).alloc (Nat.le_refl _) (.cells #[.int .u64 (p0 : Int), .int .u64 (p1 : Int)] 37)))
  have hz1 : w.heap.size + 1 + 1 < w1.heap.size := lt_of_heap (hg1.heap hR)
  clear hB hS hR hga hg1
  gi_wp2
  generalize w1.alloc (.cells #[.int .u64 (p0 : Int), .int .u64 (p1 : Int)] 37) = w2 at *
  refine wpIn_wide.2 ?_
  have b0 : w2.cell? ⟨w.heap.size, 0, none⟩ = some (.pointer p) := by rw [cell_of_heap hB1]; rfl
  go_region_held3 (fun w' => w'.cell? ⟨w.heap.size, 0, none⟩ = some (.pointer p) ∧ Grow w2 w')
    (first | exact ⟨b0, grow_drew _⟩ | exact ⟨(cell_of_heap (hgz.heap hB1) 0).trans rfl, hgz⟩ | assumption)
    (first
      | (go_at_call 62; refine Calls.mono (hh _) ?_; rintro e wn ⟨rfl, rfl⟩)
      | (go_at_call 180; go_split_ands; refine Calls.mono (way_call _ _ _) ?_; rintro e w3 ⟨B, C, rfl, hBge, hCge, hBC, hBB, hCC, hg3⟩; have hgz := Grow.trans (a := w2) (by assumption) hg3))
  rename_i z1 z2 z3
  clear z1 z2 z3
  have hB3 := hgz.heap hB1
  have hS3 := hgz.heap hS1
  have hR3 := hgz.heap hR1
  have hW3 := hgz.heap hW1
  have hG3 := hG1.trans hgz
  have hz2 : w.heap.size + 1 + 1 < w2.heap.size := lt_of_heap hR1
  have hz3 : w1.heap.size < w2.heap.size := lt_of_heap hW1
  replace hBge : w2.heap.size ≤ B := hBge
  replace hCge : w2.heap.size ≤ C := hCge
  clear hB1 hS1 hR1 hW1 hG1 b0 hg3 hh
  have hsz := lt_of_heap hBB
  have hww := hG3.size
  gi_wp2
  generalize w1.heap.size = q at *
  generalize w2.heap.size = n2 at *
  refine wp_range (gf := 200) (lb := #[.pointer (some ⟨C, 0, none⟩), .pointer (some ⟨B, 0, none⟩)]) rfl (fun args w => Try.call200 args w)
    (way_iter h H hhl B C w3 hBB hCC (fun b hb => hG3.block b hb))
    (by rintro b (hb | rfl | rfl); omega; exact lt_of_heap hBB; exact lt_of_heap hCC) (fun _ => rfl)
    (fun i X => X.heap[w.heap.size]? = some (.cells #[.pointer p] 65 (0, 0)) ∧ X.heap[w.heap.size + 1]? = some (.cells #[.int .u64 0] 22 (0, 0)) ∧ X.heap[w.heap.size + 1 + 1]? = some (.cells #[.int .u64 (roomN f H i : Int)] 22 (0, 0)) ∧
      X.heap[q]? = some (.cells #[.int .u64 (p0 : Int), .int .u64 (p1 : Int)] 37 (0, 0)) ∧ Grow w X ∧ (B < X.heap.size ∧ C < X.heap.size) ∧ (∀ j, j < i → halt f H p0 p1 j = false))
    (fun c i X => c = .ret ∧ X.heap[w.heap.size + 1]? = some (.cells #[.int .u64 (standN f H p0 p1 : Int)] 22 (0, 0)) ∧ X.heap[w.heap.size + 1 + 1]? = some (.cells #[.int .u64 (spotN f H p0 p1 : Int)] 22 (0, 0)) ∧ Grow w X)
    (fun i A D hs hm => ⟨hm.heap hs.1, hm.heap hs.2.1, hm.heap hs.2.2.1, hm.heap hs.2.2.2.1, hm.below hs.2.2.2.2.1 (by omega) hs.2.2.2.2.1.size, ⟨Nat.lt_of_lt_of_le hs.2.2.2.2.2.1.1 hm.size, Nat.lt_of_lt_of_le hs.2.2.2.2.2.1.2 hm.size⟩, hs.2.2.2.2.2.2⟩)
    (fun c i A D hs hm => ⟨hs.1, hm.heap hs.2.1, hm.heap hs.2.2.1, hm.below hs.2.2.2 (by omega) hs.2.2.2.size⟩)
    ⟨hB3, hS3, hR3, hW3, hG3, ⟨hsz, lt_of_heap hCC⟩, fun j hj => absurd hj (by omega)⟩ ?a1 ?assign ?body ?done ?stop
  case assign =>
    intro l i X K hK
    gi_wp2
    exact hK
  case body =>
    rintro l i X hi ⟨k1, k2, k3, k4, k5, ⟨hXB, hXC⟩, k6⟩
    clear hBB hCC hgz hB3 hS3 hR3 hW3 hG3 hsz hBC
    have hPl := h.lt (sl (H + i) + 16)
    have hRl := roomN_lt f H i
    have hap := sl_pos (H + i)
    have hal : sl (H + i) < 3776 := by unfold sl; omega
    have hd0 := fun W (hg : Grow w W) => load_txany (h.grow hg) (sl (H + i)) (by omega)
    have hd8 := fun W (hg : Grow w W) => load_txany (h.grow hg) (sl (H + i) + 8) (by omega)
    have hy0 := h.lt (sl (H + i))
    have hy8 := h.lt (sl (H + i) + 8)
    rw [show f (sl (H + i) + 16) = pay f H i from rfl] at hPl
    have hHit : hit f H p0 p1 i = (decide (1 < pay f H i) && (decide (f (sl (H + i)) = p0) && decide (f (sl (H + i) + 8) = p1))) := rfl
    have hHalt : halt f H p0 p1 i = (decide (pay f H i = 0) || hit f H p0 p1 i) := rfl
    have hRhit := roomN_hit (f := f) (h := H) (k := i)
    have hRmiss := roomN_miss (f := f) (h := H) (k := i)
    have hRhave := roomN_have (f := f) (h := H) (k := i)
    have hnext : halt f H p0 p1 i = false → ∀ j, j < i + 1 → halt f H p0 p1 j = false := fun h0 j hj => by
      by_cases e : j = i
      · rw [e]; exact h0
      · exact k6 j (by omega)
    have hstop := fun (h1 : halt f H p0 p1 i = true) => turn_some hi h1 k6
    have c2 : X.cell? ⟨w.heap.size + 1, 0, none⟩ = some (.int .u64 0) := by rw [cell_of_heap k2]; rfl
    have c3 : X.cell? ⟨w.heap.size + 1 + 1, 0, none⟩ = some (.int .u64 (roomN f H i : Int)) := by rw [cell_of_heap k3]; rfl
    have f2 := frozen_of_heap k2 0
    have f3 := frozen_of_heap k3 0
    generalize pay f H i = P at *
    generalize roomN f H i = R at *
    generalize sl (H + i) = a at *
    generalize f a = y0 at *
    generalize f (a + 8) = y8 at *
    have KK := Lib.hid (⟨hHalt, hHit, hRhit, hRmiss, hRhave, hnext, hstop, k6⟩ : _ ∧ _ ∧ _ ∧ _ ∧ _ ∧ _ ∧ _ ∧ _)
    clear hHalt hHit hRhit hRmiss hRhave hnext hstop k6
    by_cases hP2 : P < 2
    · have t0 : decide ((P : Int) ≤ 1) = true := decide_eq_true (by omega)
      have t1 : decide ((1 : Int) < P) = false := decide_eq_false (by omega)
      obtain ⟨R', hR', X', hX', hheld, g1, g2, g3, g4, g5⟩ : ∃ R', roomN f H (i + 1) = R' ∧ ∃ X', (if R = 0 then X.setCell ⟨w.heap.size + 1 + 1, 0, none⟩ (.int .u64 (a : Int)) else X) = X' ∧ Held (fun b => b < w.heap.size ∨ b = B ∨ b = C) X X' ∧
          X'.heap[w.heap.size]? = some (.cells #[.pointer p] 65 (0, 0)) ∧ X'.heap[w.heap.size + 1]? = some (.cells #[.int .u64 0] 22 (0, 0)) ∧ X'.heap[w.heap.size + 1 + 1]? = some (.cells #[.int .u64 (R' : Int)] 22 (0, 0)) ∧
          X'.heap[q]? = some (.cells #[.int .u64 (p0 : Int), .int .u64 (p1 : Int)] 37 (0, 0)) ∧ Grow w X' := by
        refine ⟨_, rfl, _, rfl, ?_⟩
        by_cases h0 : R = 0
        · rw [if_pos h0, KK.out.2.2.1 h0 hP2]
          refine ⟨(Held.refl _ _).setCell (by simp; omega) _, (Below.heap_setCell _ _ _ _ (by simp; omega)).trans k1, (Below.heap_setCell _ _ _ _ (by simp)).trans k2, heap_setCell_row k3 (i := 0) _, (Below.heap_setCell _ _ _ _ (by simp; omega)).trans k4, k5.setCell (by simp; omega) _⟩
        · rw [if_neg h0, KK.out.2.2.2.2.1 h0]
          exact ⟨Held.refl _ _, k1, k2, k3, k4, k5⟩
      have c2' : X'.cell? ⟨w.heap.size + 1, 0, none⟩ = some (.int .u64 0) := by rw [cell_of_heap g2]; rfl
      have c3' : X'.cell? ⟨w.heap.size + 1 + 1, 0, none⟩ = some (.int .u64 (R' : Int)) := by rw [cell_of_heap g3]; rfl
      have f2' := frozen_of_heap g2 0
      have f3' := frozen_of_heap g3 0
      by_cases hP0 : P = 0
      · have t3 : ((P : Int) == 0) = true := by rw [beq_iff_eq]; omega
        by_cases h0 : R = 0
        · have t2 : ((R : Int) == 0) = true := by rw [beq_iff_eq]; omega
          have hx : X.setCell ⟨w.heap.size + 1 + 1, 0, none⟩ (.int .u64 (a : Int)) = X' := by rw [← hX', if_pos h0]
          clear h0 hX'
          gi_wp2
          have hst : halt f H p0 p1 i = true := by rw [KK.out.1, hP0]; rfl
          have H0 : X'.drew.heap[w.heap.size + 1]? = some (.cells #[.int .u64 0] 22 (0, 0)) := g2
          have c2'' : X'.drew.cell? ⟨w.heap.size + 1, 0, none⟩ = some (.int .u64 0) := c2'
          have f2'' : X'.drew.frozen? ⟨w.heap.size + 1, 0, none⟩ = false := f2'
          have H1 : (X'.setCell ⟨w.heap.size + 1, 0, none⟩ (.int .u64 0)).drew.heap[w.heap.size + 1 + 1]? = some (.cells #[.int .u64 (R' : Int)] 22 (0, 0)) := (Below.heap_setCell _ _ _ _ (by simp)).trans g3
          have H2 : ((X'.setCell ⟨w.heap.size + 1, 0, none⟩ (.int .u64 0)).setCell ⟨w.heap.size + 1 + 1, 0, none⟩ (.int .u64 (R' : Int))).drew.heap[w.heap.size + 1 + 1]? = some (.cells #[.int .u64 (R' : Int)] 22 (0, 0)) := heap_setCell_row H1 (i := 0) _
          have H3 : ((X'.setCell ⟨w.heap.size + 1, 0, none⟩ (.int .u64 0)).setCell ⟨w.heap.size + 1 + 1, 0, none⟩ (.int .u64 (R' : Int))).drew.heap[w.heap.size + 1]? = some (.cells #[.int .u64 0] 22 (0, 0)) := (Below.heap_setCell _ _ _ _ (by simp)).trans (heap_setCell_row H0 (i := 0) _)
          have H4 : Held (fun b => b < w.heap.size ∨ b = B ∨ b = C) X ((X'.setCell ⟨w.heap.size + 1, 0, none⟩ (.int .u64 0)).setCell ⟨w.heap.size + 1 + 1, 0, none⟩ (.int .u64 (R' : Int))).drew := ((hheld.setCell (by simp; omega) _).setCell (by simp; omega) _).drew
          have H5 : Grow w ((X'.setCell ⟨w.heap.size + 1, 0, none⟩ (.int .u64 0)).setCell ⟨w.heap.size + 1 + 1, 0, none⟩ (.int .u64 (R' : Int))).drew := ((g5.setCell (by simp) _).setCell (by simp; omega) _).drew
          refine region_round (fun w' => w'.cell? ⟨w.heap.size + 1 + 1, 0, none⟩ = some (.int .u64 (R' : Int)) ∧ w'.frozen? ⟨w.heap.size + 1 + 1, 0, none⟩ = false) (by kernel_rfl) (by kernel_rfl) ⟨c3', f3'⟩ (fun hHeld => ?_)
          refine wpAnyH_take (i := 0) (v := ?_) rfl (by kernel_rfl) (by kernel_rfl) (by kernel_rfl) (fun _ _ _ h => h) (Or.inl ⟨by first | kernel_rfl | rfl, ?_⟩) (by assumption) ?_
          rotate_left
          · intro w hSw; (try dsimp only at hSw); (try go_split_ands); go_simp; first | done | with_reducible rfl
          try simp only [Act.put, List.getElem_toArray, List.getElem_cons_zero, List.setIfInBounds_toArray, List.set_cons_zero, List.set_cons_succ]
          refine wpAnyH_ready (rs := [1]) (by kernel_rfl) (by simp) ?_
          refine AllReadyH.cons rfl (fun K hK => ?_) AllReadyH.nil
          go_split_ands
          go_simp
          refine hK.out _ _ ?_ (fun hHeld => ?_)
          · exact ⟨(cell_of_heap H1 0).trans rfl, frozen_of_heap H1 0⟩
          clear hK K
          try simp only [Act.put, List.getElem_toArray, List.getElem_cons_succ, List.getElem_cons_zero, List.setIfInBounds_toArray, List.set_cons_zero, List.set_cons_succ]
          refine wpAnyH_ready (rs := [2]) (by kernel_rfl) (by simp) ?_
          refine AllReadyH.cons rfl (fun K hK => ?_) AllReadyH.nil
          go_split_ands
          go_simp
          refine hK.out _ _ ?_ (fun hHeld => ?_)
          · exact ⟨(cell_of_heap H2 0).trans rfl, frozen_of_heap H2 0⟩
          clear hK K
          try simp only [Act.put, List.getElem_toArray, List.getElem_cons_succ, List.getElem_cons_zero, List.setIfInBounds_toArray, List.set_cons_zero, List.set_cons_succ]
          refine wpAnyH_done (by kernel_rfl) ?_ _
          generalize ((X'.setCell ⟨w.heap.size + 1, 0, none⟩ (.int .u64 0)).setCell ⟨w.heap.size + 1 + 1, 0, none⟩ (.int .u64 (R' : Int))).drew = Z at *
          refine Calm.normal ?_
          gi_wp2
          refine ⟨H4, rfl, ?_, ?_, H5⟩
          · rw [(KK.out.2.2.2.2.2.2.1 hst).1, if_pos hP0]; exact H3
          · rw [(KK.out.2.2.2.2.2.2.1 hst).2, hR']; exact H2
        · have t2 : ((R : Int) == 0) = false := by rw [beq_eq_false_iff_ne]; omega
          have hx : X = X' := by rw [← hX', if_neg h0]
          clear h0 hX'
          subst hx
          gi_wp2
          have hst : halt f H p0 p1 i = true := by rw [KK.out.1, hP0]; rfl
          have H0 : X.drew.heap[w.heap.size + 1]? = some (.cells #[.int .u64 0] 22 (0, 0)) := g2
          have c2'' : X.drew.cell? ⟨w.heap.size + 1, 0, none⟩ = some (.int .u64 0) := c2'
          have f2'' : X.drew.frozen? ⟨w.heap.size + 1, 0, none⟩ = false := f2'
          have H1 : (X.setCell ⟨w.heap.size + 1, 0, none⟩ (.int .u64 0)).drew.heap[w.heap.size + 1 + 1]? = some (.cells #[.int .u64 (R' : Int)] 22 (0, 0)) := (Below.heap_setCell _ _ _ _ (by simp)).trans g3
          have H2 : ((X.setCell ⟨w.heap.size + 1, 0, none⟩ (.int .u64 0)).setCell ⟨w.heap.size + 1 + 1, 0, none⟩ (.int .u64 (R' : Int))).drew.heap[w.heap.size + 1 + 1]? = some (.cells #[.int .u64 (R' : Int)] 22 (0, 0)) := heap_setCell_row H1 (i := 0) _
          have H3 : ((X.setCell ⟨w.heap.size + 1, 0, none⟩ (.int .u64 0)).setCell ⟨w.heap.size + 1 + 1, 0, none⟩ (.int .u64 (R' : Int))).drew.heap[w.heap.size + 1]? = some (.cells #[.int .u64 0] 22 (0, 0)) := (Below.heap_setCell _ _ _ _ (by simp)).trans (heap_setCell_row H0 (i := 0) _)
          have H4 : Held (fun b => b < w.heap.size ∨ b = B ∨ b = C) X ((X.setCell ⟨w.heap.size + 1, 0, none⟩ (.int .u64 0)).setCell ⟨w.heap.size + 1 + 1, 0, none⟩ (.int .u64 (R' : Int))).drew := ((hheld.setCell (by simp; omega) _).setCell (by simp; omega) _).drew
          have H5 : Grow w ((X.setCell ⟨w.heap.size + 1, 0, none⟩ (.int .u64 0)).setCell ⟨w.heap.size + 1 + 1, 0, none⟩ (.int .u64 (R' : Int))).drew := ((g5.setCell (by simp) _).setCell (by simp; omega) _).drew
          refine region_round (fun w' => w'.cell? ⟨w.heap.size + 1 + 1, 0, none⟩ = some (.int .u64 (R' : Int)) ∧ w'.frozen? ⟨w.heap.size + 1 + 1, 0, none⟩ = false) (by kernel_rfl) (by kernel_rfl) ⟨c3', f3'⟩ (fun hHeld => ?_)
          refine wpAnyH_take (i := 0) (v := ?_) rfl (by kernel_rfl) (by kernel_rfl) (by kernel_rfl) (fun _ _ _ h => h) (Or.inl ⟨by first | kernel_rfl | rfl, ?_⟩) (by assumption) ?_
          rotate_left
          · intro w hSw; (try dsimp only at hSw); (try go_split_ands); go_simp; first | done | with_reducible rfl
          try simp only [Act.put, List.getElem_toArray, List.getElem_cons_zero, List.setIfInBounds_toArray, List.set_cons_zero, List.set_cons_succ]
          refine wpAnyH_ready (rs := [1]) (by kernel_rfl) (by simp) ?_
          refine AllReadyH.cons rfl (fun K hK => ?_) AllReadyH.nil
          go_split_ands
          go_simp
          refine hK.out _ _ ?_ (fun hHeld => ?_)
          · exact ⟨(cell_of_heap H1 0).trans rfl, frozen_of_heap H1 0⟩
          clear hK K
          try simp only [Act.put, List.getElem_toArray, List.getElem_cons_succ, List.getElem_cons_zero, List.setIfInBounds_toArray, List.set_cons_zero, List.set_cons_succ]
          refine wpAnyH_ready (rs := [2]) (by kernel_rfl) (by simp) ?_
          refine AllReadyH.cons rfl (fun K hK => ?_) AllReadyH.nil
          go_split_ands
          go_simp
          refine hK.out _ _ ?_ (fun hHeld => ?_)
          · exact ⟨(cell_of_heap H2 0).trans rfl, frozen_of_heap H2 0⟩
          clear hK K
          try simp only [Act.put, List.getElem_toArray, List.getElem_cons_succ, List.getElem_cons_zero, List.setIfInBounds_toArray, List.set_cons_zero, List.set_cons_succ]
          refine wpAnyH_done (by kernel_rfl) ?_ _
          generalize ((X.setCell ⟨w.heap.size + 1, 0, none⟩ (.int .u64 0)).setCell ⟨w.heap.size + 1 + 1, 0, none⟩ (.int .u64 (R' : Int))).drew = Z at *
          refine Calm.normal ?_
          gi_wp2
          refine ⟨H4, rfl, ?_, ?_, H5⟩
          · rw [(KK.out.2.2.2.2.2.2.1 hst).1, if_pos hP0]; exact H3
          · rw [(KK.out.2.2.2.2.2.2.1 hst).2, hR']; exact H2
      · have t3 : ((P : Int) == 0) = false := by rw [beq_eq_false_iff_ne]; omega
        by_cases h0 : R = 0
        · have t2 : ((R : Int) == 0) = true := by rw [beq_iff_eq]; omega
          have hx : X.setCell ⟨w.heap.size + 1 + 1, 0, none⟩ (.int .u64 (a : Int)) = X' := by rw [← hX', if_pos h0]
          clear h0 hX'
          gi_wp2
          refine region_round (fun w' => w'.cell? ⟨w.heap.size + 1 + 1, 0, none⟩ = some (.int .u64 (R' : Int))) (by kernel_rfl) (by kernel_rfl) c3' (fun hHeld => ?_)
          refine wpAnyH_take (i := 0) (v := ?_) rfl (by kernel_rfl) (by kernel_rfl) (by kernel_rfl) (fun _ _ _ h => h) (Or.inl ⟨by first | kernel_rfl | rfl, ?_⟩) (by assumption) ?_
          rotate_left
          · intro w hSw; (try dsimp only at hSw); (try go_split_ands); go_simp; first | done | with_reducible rfl
          try simp only [Act.put, List.getElem_toArray, List.getElem_cons_zero, List.setIfInBounds_toArray, List.set_cons_zero, List.set_cons_succ]
          refine wpAnyH_take (i := 1) (v := ?_) rfl (by kernel_rfl) (by kernel_rfl) (by kernel_rfl) (fun _ _ _ h => h) (Or.inl ⟨by first | kernel_rfl | rfl, ?_⟩) (by assumption) ?_
          rotate_left
          · intro w hSw; (try dsimp only at hSw); (try go_split_ands); go_simp; first | done | with_reducible rfl
          try simp only [Act.put, List.getElem_toArray, List.getElem_cons_succ, List.getElem_cons_zero, List.setIfInBounds_toArray, List.set_cons_zero, List.set_cons_succ]
          refine wpAnyH_take (i := 2) (v := ?_) rfl (by kernel_rfl) (by kernel_rfl) (by kernel_rfl) (fun _ _ _ h => h) (Or.inl ⟨by first | kernel_rfl | rfl, ?_⟩) (by assumption) ?_
          rotate_left
          · intro w hSw; (try dsimp only at hSw); (try go_split_ands); go_simp; first | done | with_reducible rfl
          try simp only [Act.put, List.getElem_toArray, List.getElem_cons_succ, List.getElem_cons_zero, List.setIfInBounds_toArray, List.set_cons_zero, List.set_cons_succ]
          refine wpAnyH_take (i := 3) (v := undef) rfl (by kernel_rfl) (by kernel_rfl) (by kernel_rfl) (fun _ _ _ h => h) (Or.inr ⟨by first | kernel_rfl | rfl, rfl⟩) (by assumption) ?_
          try simp only [Act.put, List.getElem_toArray, List.getElem_cons_succ, List.getElem_cons_zero, List.setIfInBounds_toArray, List.set_cons_zero, List.set_cons_succ]
          refine wpAnyH_take (i := 4) (v := undef) rfl (by kernel_rfl) (by kernel_rfl) (by kernel_rfl) (fun _ _ _ h => h) (Or.inr ⟨by first | kernel_rfl | rfl, rfl⟩) (by assumption) ?_
          try simp only [Act.put, List.getElem_toArray, List.getElem_cons_succ, List.getElem_cons_zero, List.setIfInBounds_toArray, List.set_cons_zero, List.set_cons_succ]
          refine wpAnyH_take (i := 5) (v := undef) rfl (by kernel_rfl) (by kernel_rfl) (by kernel_rfl) (fun _ _ _ h => h) (Or.inr ⟨by first | kernel_rfl | rfl, rfl⟩) (by assumption) ?_
          try simp only [Act.put, List.getElem_toArray, List.getElem_cons_succ, List.getElem_cons_zero, List.setIfInBounds_toArray, List.set_cons_zero, List.set_cons_succ]
          refine wpAnyH_take (i := 6) (v := undef) rfl (by kernel_rfl) (by kernel_rfl) (by kernel_rfl) (fun _ _ _ h => h) (Or.inr ⟨by first | kernel_rfl | rfl, rfl⟩) (by assumption) ?_
          try simp only [Act.put, List.getElem_toArray, List.getElem_cons_succ, List.getElem_cons_zero, List.setIfInBounds_toArray, List.set_cons_zero, List.set_cons_succ]
          refine wpAnyH_take (i := 7) (v := undef) rfl (by kernel_rfl) (by kernel_rfl) (by kernel_rfl) (fun _ _ _ h => h) (Or.inr ⟨by first | kernel_rfl | rfl, rfl⟩) (by assumption) ?_
          try simp only [Act.put, List.getElem_toArray, List.getElem_cons_succ, List.getElem_cons_zero, List.setIfInBounds_toArray, List.set_cons_zero, List.set_cons_succ]
          refine wpAnyH_take (i := 8) (v := undef) rfl (by kernel_rfl) (by kernel_rfl) (by kernel_rfl) (fun _ _ _ h => h) (Or.inr ⟨by first | kernel_rfl | rfl, rfl⟩) (by assumption) ?_
          try simp only [Act.put, List.getElem_toArray, List.getElem_cons_succ, List.getElem_cons_zero, List.setIfInBounds_toArray, List.set_cons_zero, List.set_cons_succ]
          refine wpAnyH_take (i := 9) (v := undef) rfl (by kernel_rfl) (by kernel_rfl) (by kernel_rfl) (fun _ _ _ h => h) (Or.inr ⟨by first | kernel_rfl | rfl, rfl⟩) (by assumption) ?_
          try simp only [Act.put, List.getElem_toArray, List.getElem_cons_succ, List.getElem_cons_zero, List.setIfInBounds_toArray, List.set_cons_zero, List.set_cons_succ]
          refine wpAnyH_take (i := 10) (v := undef) rfl (by kernel_rfl) (by kernel_rfl) (by kernel_rfl) (fun _ _ _ h => h) (Or.inr ⟨by first | kernel_rfl | rfl, rfl⟩) (by assumption) ?_
          try simp only [Act.put, List.getElem_toArray, List.getElem_cons_succ, List.getElem_cons_zero, List.setIfInBounds_toArray, List.set_cons_zero, List.set_cons_succ]
          refine wpAnyH_take (i := 11) (v := undef) rfl (by kernel_rfl) (by kernel_rfl) (by kernel_rfl) (fun _ _ _ h => h) (Or.inr ⟨by first | kernel_rfl | rfl, rfl⟩) (by assumption) ?_
          try simp only [Act.put, List.getElem_toArray, List.getElem_cons_succ, List.getElem_cons_zero, List.setIfInBounds_toArray, List.set_cons_zero, List.set_cons_succ]
          refine wpAnyH_take (i := 12) (v := undef) rfl (by kernel_rfl) (by kernel_rfl) (by kernel_rfl) (fun _ _ _ h => h) (Or.inr ⟨by first | kernel_rfl | rfl, rfl⟩) (by assumption) ?_
          try simp only [Act.put, List.getElem_toArray, List.getElem_cons_succ, List.getElem_cons_zero, List.setIfInBounds_toArray, List.set_cons_zero, List.set_cons_succ]
          refine wpAnyH_take (i := 13) (v := ?_) rfl (by kernel_rfl) (by kernel_rfl) (by kernel_rfl) (fun _ _ _ h => h) (Or.inl ⟨by first | kernel_rfl | rfl, ?_⟩) (by assumption) ?_
          rotate_left
          · intro w hSw; (try dsimp only at hSw); (try go_split_ands); go_simp; first | done | with_reducible rfl
          try simp only [Act.put, List.getElem_toArray, List.getElem_cons_succ, List.getElem_cons_zero, List.setIfInBounds_toArray, List.set_cons_zero, List.set_cons_succ]
          refine wpAnyH_take (i := 14) (v := ?_) rfl (by kernel_rfl) (by kernel_rfl) (by kernel_rfl) (fun _ _ _ h => h) (Or.inl ⟨by first | kernel_rfl | rfl, ?_⟩) (by assumption) ?_
          rotate_left
          · intro w hSw; (try dsimp only at hSw); (try go_split_ands); go_simp; first | done | with_reducible rfl
          try simp only [Act.put, List.getElem_toArray, List.getElem_cons_succ, List.getElem_cons_zero, List.setIfInBounds_toArray, List.set_cons_zero, List.set_cons_succ]
          refine wpAnyH_done (by kernel_rfl) ?_ _
          refine Calm.normal ?_
          gi_wp2
          refine ⟨hheld.drew, g1, g2, ?_, g4, g5.drew, ⟨Nat.lt_of_lt_of_le hXB hheld.size, Nat.lt_of_lt_of_le hXC hheld.size⟩, KK.out.2.2.2.2.2.1 (by rw [KK.out.1, KK.out.2.1, decide_eq_false hP0, decide_eq_false (show ¬ 1 < P by omega)]; rfl)⟩
          rw [hR']; exact g3
        · have t2 : ((R : Int) == 0) = false := by rw [beq_eq_false_iff_ne]; omega
          have hx : X = X' := by rw [← hX', if_neg h0]
          clear h0 hX'
          subst hx
          gi_wp2
          refine region_round (fun w' => w'.cell? ⟨w.heap.size + 1 + 1, 0, none⟩ = some (.int .u64 (R' : Int))) (by kernel_rfl) (by kernel_rfl) c3' (fun hHeld => ?_)
          refine wpAnyH_take (i := 0) (v := ?_) rfl (by kernel_rfl) (by kernel_rfl) (by kernel_rfl) (fun _ _ _ h => h) (Or.inl ⟨by first | kernel_rfl | rfl, ?_⟩) (by assumption) ?_
          rotate_left
          · intro w hSw; (try dsimp only at hSw); (try go_split_ands); go_simp; first | done | with_reducible rfl
          try simp only [Act.put, List.getElem_toArray, List.getElem_cons_zero, List.setIfInBounds_toArray, List.set_cons_zero, List.set_cons_succ]
          refine wpAnyH_take (i := 1) (v := ?_) rfl (by kernel_rfl) (by kernel_rfl) (by kernel_rfl) (fun _ _ _ h => h) (Or.inl ⟨by first | kernel_rfl | rfl, ?_⟩) (by assumption) ?_
          rotate_left
          · intro w hSw; (try dsimp only at hSw); (try go_split_ands); go_simp; first | done | with_reducible rfl
          try simp only [Act.put, List.getElem_toArray, List.getElem_cons_succ, List.getElem_cons_zero, List.setIfInBounds_toArray, List.set_cons_zero, List.set_cons_succ]
          refine wpAnyH_take (i := 2) (v := ?_) rfl (by kernel_rfl) (by kernel_rfl) (by kernel_rfl) (fun _ _ _ h => h) (Or.inl ⟨by first | kernel_rfl | rfl, ?_⟩) (by assumption) ?_
          rotate_left
          · intro w hSw; (try dsimp only at hSw); (try go_split_ands); go_simp; first | done | with_reducible rfl
          try simp only [Act.put, List.getElem_toArray, List.getElem_cons_succ, List.getElem_cons_zero, List.setIfInBounds_toArray, List.set_cons_zero, List.set_cons_succ]
          refine wpAnyH_take (i := 3) (v := undef) rfl (by kernel_rfl) (by kernel_rfl) (by kernel_rfl) (fun _ _ _ h => h) (Or.inr ⟨by first | kernel_rfl | rfl, rfl⟩) (by assumption) ?_
          try simp only [Act.put, List.getElem_toArray, List.getElem_cons_succ, List.getElem_cons_zero, List.setIfInBounds_toArray, List.set_cons_zero, List.set_cons_succ]
          refine wpAnyH_take (i := 4) (v := undef) rfl (by kernel_rfl) (by kernel_rfl) (by kernel_rfl) (fun _ _ _ h => h) (Or.inr ⟨by first | kernel_rfl | rfl, rfl⟩) (by assumption) ?_
          try simp only [Act.put, List.getElem_toArray, List.getElem_cons_succ, List.getElem_cons_zero, List.setIfInBounds_toArray, List.set_cons_zero, List.set_cons_succ]
          refine wpAnyH_take (i := 5) (v := undef) rfl (by kernel_rfl) (by kernel_rfl) (by kernel_rfl) (fun _ _ _ h => h) (Or.inr ⟨by first | kernel_rfl | rfl, rfl⟩) (by assumption) ?_
          try simp only [Act.put, List.getElem_toArray, List.getElem_cons_succ, List.getElem_cons_zero, List.setIfInBounds_toArray, List.set_cons_zero, List.set_cons_succ]
          refine wpAnyH_take (i := 6) (v := undef) rfl (by kernel_rfl) (by kernel_rfl) (by kernel_rfl) (fun _ _ _ h => h) (Or.inr ⟨by first | kernel_rfl | rfl, rfl⟩) (by assumption) ?_
          try simp only [Act.put, List.getElem_toArray, List.getElem_cons_succ, List.getElem_cons_zero, List.setIfInBounds_toArray, List.set_cons_zero, List.set_cons_succ]
          refine wpAnyH_take (i := 7) (v := undef) rfl (by kernel_rfl) (by kernel_rfl) (by kernel_rfl) (fun _ _ _ h => h) (Or.inr ⟨by first | kernel_rfl | rfl, rfl⟩) (by assumption) ?_
          try simp only [Act.put, List.getElem_toArray, List.getElem_cons_succ, List.getElem_cons_zero, List.setIfInBounds_toArray, List.set_cons_zero, List.set_cons_succ]
          refine wpAnyH_take (i := 8) (v := undef) rfl (by kernel_rfl) (by kernel_rfl) (by kernel_rfl) (fun _ _ _ h => h) (Or.inr ⟨by first | kernel_rfl | rfl, rfl⟩) (by assumption) ?_
          try simp only [Act.put, List.getElem_toArray, List.getElem_cons_succ, List.getElem_cons_zero, List.setIfInBounds_toArray, List.set_cons_zero, List.set_cons_succ]
          refine wpAnyH_take (i := 9) (v := undef) rfl (by kernel_rfl) (by kernel_rfl) (by kernel_rfl) (fun _ _ _ h => h) (Or.inr ⟨by first | kernel_rfl | rfl, rfl⟩) (by assumption) ?_
          try simp only [Act.put, List.getElem_toArray, List.getElem_cons_succ, List.getElem_cons_zero, List.setIfInBounds_toArray, List.set_cons_zero, List.set_cons_succ]
          refine wpAnyH_take (i := 10) (v := undef) rfl (by kernel_rfl) (by kernel_rfl) (by kernel_rfl) (fun _ _ _ h => h) (Or.inr ⟨by first | kernel_rfl | rfl, rfl⟩) (by assumption) ?_
          try simp only [Act.put, List.getElem_toArray, List.getElem_cons_succ, List.getElem_cons_zero, List.setIfInBounds_toArray, List.set_cons_zero, List.set_cons_succ]
          refine wpAnyH_take (i := 11) (v := undef) rfl (by kernel_rfl) (by kernel_rfl) (by kernel_rfl) (fun _ _ _ h => h) (Or.inr ⟨by first | kernel_rfl | rfl, rfl⟩) (by assumption) ?_
          try simp only [Act.put, List.getElem_toArray, List.getElem_cons_succ, List.getElem_cons_zero, List.setIfInBounds_toArray, List.set_cons_zero, List.set_cons_succ]
          refine wpAnyH_take (i := 12) (v := undef) rfl (by kernel_rfl) (by kernel_rfl) (by kernel_rfl) (fun _ _ _ h => h) (Or.inr ⟨by first | kernel_rfl | rfl, rfl⟩) (by assumption) ?_
          try simp only [Act.put, List.getElem_toArray, List.getElem_cons_succ, List.getElem_cons_zero, List.setIfInBounds_toArray, List.set_cons_zero, List.set_cons_succ]
          refine wpAnyH_take (i := 13) (v := ?_) rfl (by kernel_rfl) (by kernel_rfl) (by kernel_rfl) (fun _ _ _ h => h) (Or.inl ⟨by first | kernel_rfl | rfl, ?_⟩) (by assumption) ?_
          rotate_left
          · intro w hSw; (try dsimp only at hSw); (try go_split_ands); go_simp; first | done | with_reducible rfl
          try simp only [Act.put, List.getElem_toArray, List.getElem_cons_succ, List.getElem_cons_zero, List.setIfInBounds_toArray, List.set_cons_zero, List.set_cons_succ]
          refine wpAnyH_take (i := 14) (v := ?_) rfl (by kernel_rfl) (by kernel_rfl) (by kernel_rfl) (fun _ _ _ h => h) (Or.inl ⟨by first | kernel_rfl | rfl, ?_⟩) (by assumption) ?_
          rotate_left
          · intro w hSw; (try dsimp only at hSw); (try go_split_ands); go_simp; first | done | with_reducible rfl
          try simp only [Act.put, List.getElem_toArray, List.getElem_cons_succ, List.getElem_cons_zero, List.setIfInBounds_toArray, List.set_cons_zero, List.set_cons_succ]
          refine wpAnyH_done (by kernel_rfl) ?_ _
          refine Calm.normal ?_
          gi_wp2
          refine ⟨hheld.drew, g1, g2, ?_, g4, g5.drew, ⟨Nat.lt_of_lt_of_le hXB hheld.size, Nat.lt_of_lt_of_le hXC hheld.size⟩, KK.out.2.2.2.2.2.1 (by rw [KK.out.1, KK.out.2.1, decide_eq_false hP0, decide_eq_false (show ¬ 1 < P by omega)]; rfl)⟩
          rw [hR']; exact g3
    · have t0 : decide ((P : Int) ≤ 1) = false := decide_eq_false (by omega)
      have t1 : decide ((1 : Int) < P) = true := decide_eq_true (by omega)
      have t3 : ((P : Int) == 0) = false := by rw [beq_eq_false_iff_ne]; omega
      have e8 : IntKind.u64.wrap ((a : Int) + 8) = ((a + 8 : Nat) : Int) := by rw [IntKind.wrap_u64]; omega
      have cq0 : X.cell? ⟨q, 0, none⟩ = some (.int .u64 (p0 : Int)) := by rw [cell_of_heap k4]; rfl
      have cq1 : X.cell? ⟨q, 1, none⟩ = some (.int .u64 (p1 : Int)) := by rw [cell_of_heap k4]; rfl
      have cb0 : X.cell? ⟨w.heap.size, 0, none⟩ = some (.pointer p) := by rw [cell_of_heap k1]; rfl
      clear c2 c3 f2 f3
      by_cases ha0 : y0 = p0
      · have t4 : ((p0 : Int) == y0) = true := by rw [beq_iff_eq]; omega
        by_cases ha8 : y8 = p1
        · have t5 : ((p1 : Int) == y8) = true := by rw [beq_iff_eq]; omega
          have hst : halt f H p0 p1 i = true := by rw [KK.out.1, KK.out.2.1, decide_eq_true ha0, decide_eq_true ha8, decide_eq_true (show 1 < P by omega)]; simp
          clear ha0 ha8
          gi_wp2
          refine region_round (fun w' => w'.cell? ⟨q, 0, none⟩ = some (.int .u64 (p0 : Int)) ∧ w'.cell? ⟨q, 1, none⟩ = some (.int .u64 (p1 : Int)) ∧ w'.cell? ⟨w.heap.size, 0, none⟩ = some (.pointer p) ∧ Grow X w') (by kernel_rfl) (by kernel_rfl) ⟨cq0, cq1, cb0, grow_drew X⟩ (fun hHeld => ?_)
          refine wpAnyH_take (i := 0) (v := ?_) rfl (by kernel_rfl) (by kernel_rfl) (by kernel_rfl) (fun _ _ _ h => h) (Or.inl ⟨by first | kernel_rfl | rfl, ?_⟩) (by assumption) ?_
          rotate_left
          · intro w hSw; (try dsimp only at hSw); (try go_split_ands); go_simp; first | done | with_reducible rfl
          try simp only [Act.put, List.getElem_toArray, List.getElem_cons_zero, List.setIfInBounds_toArray, List.set_cons_zero, List.set_cons_succ]
          refine wpAnyH_take (i := 1) (v := ?_) rfl (by kernel_rfl) (by kernel_rfl) (by kernel_rfl) (fun _ _ _ h => h) (Or.inl ⟨by first | kernel_rfl | rfl, ?_⟩) (by assumption) ?_
          rotate_left
          · intro w hSw; (try dsimp only at hSw); (try go_split_ands); go_simp; first | done | with_reducible rfl
          try simp only [Act.put, List.getElem_toArray, List.getElem_cons_succ, List.getElem_cons_zero, List.setIfInBounds_toArray, List.set_cons_zero, List.set_cons_succ]
          refine wpAnyH_take (i := 2) (v := ?_) rfl (by kernel_rfl) (by kernel_rfl) (by kernel_rfl) (fun _ _ _ h => h) (Or.inl ⟨by first | kernel_rfl | rfl, ?_⟩) (by assumption) ?_
          rotate_left
          · intro w hSw; (try dsimp only at hSw); (try go_split_ands); go_simp; first | done | with_reducible rfl
          try simp only [Act.put, List.getElem_toArray, List.getElem_cons_succ, List.getElem_cons_zero, List.setIfInBounds_toArray, List.set_cons_zero, List.set_cons_succ]
          refine wpAnyH_take (i := 3) (v := ?_) rfl (by kernel_rfl) (by kernel_rfl) (by kernel_rfl) (fun _ _ _ h => h) (Or.inl ⟨by first | kernel_rfl | rfl, ?_⟩) (by assumption) ?_
          rotate_left
          · intro w hSw; (try dsimp only at hSw); (try go_split_ands); go_simp; first | done | with_reducible rfl
          try simp only [Act.put, List.getElem_toArray, List.getElem_cons_succ, List.getElem_cons_zero, List.setIfInBounds_toArray, List.set_cons_zero, List.set_cons_succ]
          refine wpAnyH_take (i := 4) (v := ?_) rfl (by kernel_rfl) (by kernel_rfl) (by kernel_rfl) (fun _ _ _ h => h) (Or.inl ⟨by first | kernel_rfl | rfl, ?_⟩) (by assumption) ?_
          rotate_left
          · intro w hSw; (try dsimp only at hSw); (try go_split_ands); go_simp; first | done | with_reducible rfl
          try simp only [Act.put, List.getElem_toArray, List.getElem_cons_succ, List.getElem_cons_zero, List.setIfInBounds_toArray, List.set_cons_zero, List.set_cons_succ]
          refine wpAnyH_take (i := 5) (v := ?_) rfl (by kernel_rfl) (by kernel_rfl) (by kernel_rfl) (fun _ _ _ h => h) (Or.inl ⟨by first | kernel_rfl | rfl, ?_⟩) (by assumption) ?_
          rotate_left
          · intro w hSw; (try dsimp only at hSw); (try go_split_ands); go_simp; first | done | with_reducible rfl
          try simp only [Act.put, List.getElem_toArray, List.getElem_cons_succ, List.getElem_cons_zero, List.setIfInBounds_toArray, List.set_cons_zero, List.set_cons_succ]
          refine wpAnyH_take (i := 7) (v := ?_) rfl (by kernel_rfl) (by kernel_rfl) (by kernel_rfl) (fun _ _ _ h => h) (Or.inl ⟨by first | kernel_rfl | rfl, ?_⟩) (by assumption) ?_
          rotate_left
          · intro w hSw; (try dsimp only at hSw); (try go_split_ands); go_simp; first | done | with_reducible rfl
          try simp only [Act.put, List.getElem_toArray, List.getElem_cons_succ, List.getElem_cons_zero, List.setIfInBounds_toArray, List.set_cons_zero, List.set_cons_succ]
          refine wpAnyH_take (i := 8) (v := ?_) rfl (by kernel_rfl) (by kernel_rfl) (by kernel_rfl) (fun _ _ _ h => h) (Or.inl ⟨by first | kernel_rfl | rfl, ?_⟩) (by assumption) ?_
          rotate_left
          · intro w hSw; (try dsimp only at hSw); (try go_split_ands); go_simp; first | done | with_reducible rfl
          try simp only [Act.put, List.getElem_toArray, List.getElem_cons_succ, List.getElem_cons_zero, List.setIfInBounds_toArray, List.set_cons_zero, List.set_cons_succ]
          refine wpAnyH_take (i := 9) (v := ?_) rfl (by kernel_rfl) (by kernel_rfl) (by kernel_rfl) (fun _ _ _ h => h) (Or.inl ⟨by first | kernel_rfl | rfl, ?_⟩) (by assumption) ?_
          rotate_left
          · intro w hSw; (try dsimp only at hSw); (try go_split_ands); go_simp; first | done | with_reducible rfl
          try simp only [Act.put, List.getElem_toArray, List.getElem_cons_succ, List.getElem_cons_zero, List.setIfInBounds_toArray, List.set_cons_zero, List.set_cons_succ]
          refine wpAnyH_ready (rs := [6]) (by kernel_rfl) (by simp) ?_
          refine AllReadyH.cons rfl (fun K hK => ?_) AllReadyH.nil
          go_simp
          go_at_call 118
          go_split_ands
          refine Calls.mono (hd0 _ (k5.trans (by assumption))) ?_
          rintro e w4 ⟨rfl, hg4⟩
          have hgz := Grow.trans (a := X) (by assumption) hg4
          go_wp2_with fail
          refine hK.out _ _ ?_ (fun hHeld => ?_)
          · exact ⟨(cell_of_heap (hgz.heap k4) 0).trans rfl, (cell_of_heap (hgz.heap k4) 1).trans rfl, (cell_of_heap (hgz.heap k1) 0).trans rfl, hgz⟩
          clear hK K
          try simp only [Act.put, List.getElem_toArray, List.getElem_cons_succ, List.getElem_cons_zero, List.setIfInBounds_toArray, List.set_cons_zero, List.set_cons_succ]
          refine wpAnyH_ready (rs := [10]) (by kernel_rfl) (by simp) ?_
          refine AllReadyH.cons rfl (fun K hK => ?_) AllReadyH.nil
          go_simp
          go_at_call 118
          refine Calls.mono (hd8 _ (k5.trans hgz)) ?_
          rintro e w5 ⟨rfl, hg5⟩
          replace hgz := hgz.trans hg5
          clear hg4
          go_wp2_with fail
          refine hK.out _ _ ?_ (fun hHeld => ?_)
          · exact ⟨(cell_of_heap (hgz.heap k4) 0).trans rfl, (cell_of_heap (hgz.heap k4) 1).trans rfl, (cell_of_heap (hgz.heap k1) 0).trans rfl, hgz⟩
          clear hK K
          try simp only [Act.put, List.getElem_toArray, List.getElem_cons_succ, List.getElem_cons_zero, List.setIfInBounds_toArray, List.set_cons_zero, List.set_cons_succ]
          refine wpAnyH_take (i := 11) (v := ?_) rfl (by kernel_rfl) (by kernel_rfl) (by kernel_rfl) (fun _ _ _ h => h) (Or.inl ⟨by first | kernel_rfl | rfl, ?_⟩) (by assumption) ?_
          rotate_left
          · intro w hSw; (try dsimp only at hSw); (try go_split_ands); go_simp; first | done | with_reducible rfl
          try simp only [Act.put, List.getElem_toArray, List.getElem_cons_succ, List.getElem_cons_zero, List.setIfInBounds_toArray, List.set_cons_zero, List.set_cons_succ]
          refine wpAnyH_take (i := 12) (v := ?_) rfl (by kernel_rfl) (by kernel_rfl) (by kernel_rfl) (fun _ _ _ h => h) (Or.inl ⟨by first | kernel_rfl | rfl, ?_⟩) (by assumption) ?_
          rotate_left
          · intro w hSw; (try dsimp only at hSw); (try go_split_ands); go_simp; first | done | with_reducible rfl
          try simp only [Act.put, List.getElem_toArray, List.getElem_cons_succ, List.getElem_cons_zero, List.setIfInBounds_toArray, List.set_cons_zero, List.set_cons_succ]
          refine wpAnyH_take (i := 13) (v := ?_) rfl (by kernel_rfl) (by kernel_rfl) (by kernel_rfl) (fun _ _ _ h => h) (Or.inl ⟨by first | kernel_rfl | rfl, ?_⟩) (by assumption) ?_
          rotate_left
          · intro w hSw; (try dsimp only at hSw); (try go_split_ands); go_simp; first | done | with_reducible rfl
          try simp only [Act.put, List.getElem_toArray, List.getElem_cons_succ, List.getElem_cons_zero, List.setIfInBounds_toArray, List.set_cons_zero, List.set_cons_succ]
          refine wpAnyH_take (i := 14) (v := ?_) rfl (by kernel_rfl) (by kernel_rfl) (by kernel_rfl) (fun _ _ _ h => h) (Or.inl ⟨by first | kernel_rfl | rfl, ?_⟩) (by assumption) ?_
          rotate_left
          · intro w hSw; (try dsimp only at hSw); (try go_split_ands); go_simp; first | done | with_reducible rfl
          try simp only [Act.put, List.getElem_toArray, List.getElem_cons_succ, List.getElem_cons_zero, List.setIfInBounds_toArray, List.set_cons_zero, List.set_cons_succ]
          refine wpAnyH_done (by kernel_rfl) ?_ _
          refine Calm.normal ?_
          gi_wp2
          have hhl : Held (fun b => b < w.heap.size ∨ b = B ∨ b = C) X w5 := Held.of_grow hgz (by rintro b (hb | rfl | rfl); have := k5.size; omega; exact hXB; exact hXC)
          have g2 := hgz.heap k2
          have g3 := hgz.heap k3
          have g5 := k5.trans hgz
          have c2'' : w5.drew.cell? ⟨w.heap.size + 1, 0, none⟩ = some (.int .u64 0) := (cell_of_heap g2 0).trans rfl
          have c3'' : w5.drew.cell? ⟨w.heap.size + 1 + 1, 0, none⟩ = some (.int .u64 (R : Int)) := (cell_of_heap g3 0).trans rfl
          have f2'' : w5.drew.frozen? ⟨w.heap.size + 1, 0, none⟩ = false := frozen_of_heap g2 0
          have f3'' : w5.drew.frozen? ⟨w.heap.size + 1 + 1, 0, none⟩ = false := frozen_of_heap g3 0
          have H1 : (w5.setCell ⟨w.heap.size + 1, 0, none⟩ (.int .u64 (a : Int))).drew.heap[w.heap.size + 1 + 1]? = some (.cells #[.int .u64 (R : Int)] 22 (0, 0)) := (Below.heap_setCell _ _ _ _ (by simp)).trans g3
          have H2 : ((w5.setCell ⟨w.heap.size + 1, 0, none⟩ (.int .u64 (a : Int))).setCell ⟨w.heap.size + 1 + 1, 0, none⟩ (.int .u64 (R : Int))).drew.heap[w.heap.size + 1 + 1]? = some (.cells #[.int .u64 (R : Int)] 22 (0, 0)) := heap_setCell_row H1 (i := 0) _
          have H3 : ((w5.setCell ⟨w.heap.size + 1, 0, none⟩ (.int .u64 (a : Int))).setCell ⟨w.heap.size + 1 + 1, 0, none⟩ (.int .u64 (R : Int))).drew.heap[w.heap.size + 1]? = some (.cells #[.int .u64 (a : Int)] 22 (0, 0)) := (Below.heap_setCell _ _ _ _ (by simp)).trans (heap_setCell_row g2 (i := 0) _)
          have H4 : Held (fun b => b < w.heap.size ∨ b = B ∨ b = C) X ((w5.setCell ⟨w.heap.size + 1, 0, none⟩ (.int .u64 (a : Int))).setCell ⟨w.heap.size + 1 + 1, 0, none⟩ (.int .u64 (R : Int))).drew := ((hhl.setCell (by simp; omega) _).setCell (by simp; omega) _).drew
          have H5 : Grow w ((w5.setCell ⟨w.heap.size + 1, 0, none⟩ (.int .u64 (a : Int))).setCell ⟨w.heap.size + 1 + 1, 0, none⟩ (.int .u64 (R : Int))).drew := ((g5.setCell (by simp) _).setCell (by simp; omega) _).drew
          refine region_round (fun w' => w'.cell? ⟨w.heap.size + 1 + 1, 0, none⟩ = some (.int .u64 (R : Int)) ∧ w'.frozen? ⟨w.heap.size + 1 + 1, 0, none⟩ = false) (by kernel_rfl) (by kernel_rfl) ⟨c3'', f3''⟩ (fun hHeld => ?_)
          refine wpAnyH_take (i := 0) (v := ?_) rfl (by kernel_rfl) (by kernel_rfl) (by kernel_rfl) (fun _ _ _ h => h) (Or.inl ⟨by first | kernel_rfl | rfl, ?_⟩) (by assumption) ?_
          rotate_left
          · intro w hSw; (try dsimp only at hSw); (try go_split_ands); go_simp; first | done | with_reducible rfl
          try simp only [Act.put, List.getElem_toArray, List.getElem_cons_zero, List.setIfInBounds_toArray, List.set_cons_zero, List.set_cons_succ]
          refine wpAnyH_take (i := 1) (v := ?_) rfl (by kernel_rfl) (by kernel_rfl) (by kernel_rfl) (fun _ _ _ h => h) (Or.inl ⟨by first | kernel_rfl | rfl, ?_⟩) (by assumption) ?_
          rotate_left
          · intro w hSw; (try dsimp only at hSw); (try go_split_ands); go_simp; first | done | with_reducible rfl
          try simp only [Act.put, List.getElem_toArray, List.getElem_cons_succ, List.getElem_cons_zero, List.setIfInBounds_toArray, List.set_cons_zero, List.set_cons_succ]
          refine wpAnyH_ready (rs := [2]) (by kernel_rfl) (by simp) ?_
          refine AllReadyH.cons rfl (fun K hK => ?_) AllReadyH.nil
          go_split_ands
          go_simp
          refine hK.out _ _ ?_ (fun hHeld => ?_)
          · exact ⟨(cell_of_heap H1 0).trans rfl, frozen_of_heap H1 0⟩
          clear hK K
          try simp only [Act.put, List.getElem_toArray, List.getElem_cons_succ, List.getElem_cons_zero, List.setIfInBounds_toArray, List.set_cons_zero, List.set_cons_succ]
          refine wpAnyH_ready (rs := [3]) (by kernel_rfl) (by simp) ?_
          refine AllReadyH.cons rfl (fun K hK => ?_) AllReadyH.nil
          go_split_ands
          go_simp
          refine hK.out _ _ ?_ (fun hHeld => ?_)
          · exact ⟨(cell_of_heap H2 0).trans rfl, frozen_of_heap H2 0⟩
          clear hK K
          try simp only [Act.put, List.getElem_toArray, List.getElem_cons_succ, List.getElem_cons_zero, List.setIfInBounds_toArray, List.set_cons_zero, List.set_cons_succ]
          refine wpAnyH_done (by kernel_rfl) ?_ _
          generalize ((w5.setCell ⟨w.heap.size + 1, 0, none⟩ (.int .u64 (a : Int))).setCell ⟨w.heap.size + 1 + 1, 0, none⟩ (.int .u64 (R : Int))).drew = Z at *
          refine Calm.normal ?_
          gi_wp2
          refine ⟨H4, rfl, ?_, ?_, H5⟩
          · rw [(KK.out.2.2.2.2.2.2.1 hst).1, if_neg (by omega)]; exact H3
          · rw [(KK.out.2.2.2.2.2.2.1 hst).2, KK.out.2.2.2.1 hP2]; exact H2
        · have t5 : ((p1 : Int) == y8) = false := by rw [beq_eq_false_iff_ne]; omega
          have HITq : (decide (1 < P) && (decide (y0 = p0) && decide (y8 = p1))) = false := by rw [decide_eq_false ha8]; simp
          clear ha0 ha8
          gi_wp2
          refine region_round (fun w' => w'.cell? ⟨q, 0, none⟩ = some (.int .u64 (p0 : Int)) ∧ w'.cell? ⟨q, 1, none⟩ = some (.int .u64 (p1 : Int)) ∧ w'.cell? ⟨w.heap.size, 0, none⟩ = some (.pointer p) ∧ Grow X w') (by kernel_rfl) (by kernel_rfl) ⟨cq0, cq1, cb0, grow_drew X⟩ (fun hHeld => ?_)
          refine wpAnyH_take (i := 0) (v := ?_) rfl (by kernel_rfl) (by kernel_rfl) (by kernel_rfl) (fun _ _ _ h => h) (Or.inl ⟨by first | kernel_rfl | rfl, ?_⟩) (by assumption) ?_
          rotate_left
          · intro w hSw; (try dsimp only at hSw); (try go_split_ands); go_simp; first | done | with_reducible rfl
          try simp only [Act.put, List.getElem_toArray, List.getElem_cons_zero, List.setIfInBounds_toArray, List.set_cons_zero, List.set_cons_succ]
          refine wpAnyH_take (i := 1) (v := ?_) rfl (by kernel_rfl) (by kernel_rfl) (by kernel_rfl) (fun _ _ _ h => h) (Or.inl ⟨by first | kernel_rfl | rfl, ?_⟩) (by assumption) ?_
          rotate_left
          · intro w hSw; (try dsimp only at hSw); (try go_split_ands); go_simp; first | done | with_reducible rfl
          try simp only [Act.put, List.getElem_toArray, List.getElem_cons_succ, List.getElem_cons_zero, List.setIfInBounds_toArray, List.set_cons_zero, List.set_cons_succ]
          refine wpAnyH_take (i := 2) (v := ?_) rfl (by kernel_rfl) (by kernel_rfl) (by kernel_rfl) (fun _ _ _ h => h) (Or.inl ⟨by first | kernel_rfl | rfl, ?_⟩) (by assumption) ?_
          rotate_left
          · intro w hSw; (try dsimp only at hSw); (try go_split_ands); go_simp; first | done | with_reducible rfl
          try simp only [Act.put, List.getElem_toArray, List.getElem_cons_succ, List.getElem_cons_zero, List.setIfInBounds_toArray, List.set_cons_zero, List.set_cons_succ]
          refine wpAnyH_take (i := 3) (v := ?_) rfl (by kernel_rfl) (by kernel_rfl) (by kernel_rfl) (fun _ _ _ h => h) (Or.inl ⟨by first | kernel_rfl | rfl, ?_⟩) (by assumption) ?_
          rotate_left
          · intro w hSw; (try dsimp only at hSw); (try go_split_ands); go_simp; first | done | with_reducible rfl
          try simp only [Act.put, List.getElem_toArray, List.getElem_cons_succ, List.getElem_cons_zero, List.setIfInBounds_toArray, List.set_cons_zero, List.set_cons_succ]
          refine wpAnyH_take (i := 4) (v := ?_) rfl (by kernel_rfl) (by kernel_rfl) (by kernel_rfl) (fun _ _ _ h => h) (Or.inl ⟨by first | kernel_rfl | rfl, ?_⟩) (by assumption) ?_
          rotate_left
          · intro w hSw; (try dsimp only at hSw); (try go_split_ands); go_simp; first | done | with_reducible rfl
          try simp only [Act.put, List.getElem_toArray, List.getElem_cons_succ, List.getElem_cons_zero, List.setIfInBounds_toArray, List.set_cons_zero, List.set_cons_succ]
          refine wpAnyH_take (i := 5) (v := ?_) rfl (by kernel_rfl) (by kernel_rfl) (by kernel_rfl) (fun _ _ _ h => h) (Or.inl ⟨by first | kernel_rfl | rfl, ?_⟩) (by assumption) ?_
          rotate_left
          · intro w hSw; (try dsimp only at hSw); (try go_split_ands); go_simp; first | done | with_reducible rfl
          try simp only [Act.put, List.getElem_toArray, List.getElem_cons_succ, List.getElem_cons_zero, List.setIfInBounds_toArray, List.set_cons_zero, List.set_cons_succ]
          refine wpAnyH_take (i := 7) (v := ?_) rfl (by kernel_rfl) (by kernel_rfl) (by kernel_rfl) (fun _ _ _ h => h) (Or.inl ⟨by first | kernel_rfl | rfl, ?_⟩) (by assumption) ?_
          rotate_left
          · intro w hSw; (try dsimp only at hSw); (try go_split_ands); go_simp; first | done | with_reducible rfl
          try simp only [Act.put, List.getElem_toArray, List.getElem_cons_succ, List.getElem_cons_zero, List.setIfInBounds_toArray, List.set_cons_zero, List.set_cons_succ]
          refine wpAnyH_take (i := 8) (v := ?_) rfl (by kernel_rfl) (by kernel_rfl) (by kernel_rfl) (fun _ _ _ h => h) (Or.inl ⟨by first | kernel_rfl | rfl, ?_⟩) (by assumption) ?_
          rotate_left
          · intro w hSw; (try dsimp only at hSw); (try go_split_ands); go_simp; first | done | with_reducible rfl
          try simp only [Act.put, List.getElem_toArray, List.getElem_cons_succ, List.getElem_cons_zero, List.setIfInBounds_toArray, List.set_cons_zero, List.set_cons_succ]
          refine wpAnyH_take (i := 9) (v := ?_) rfl (by kernel_rfl) (by kernel_rfl) (by kernel_rfl) (fun _ _ _ h => h) (Or.inl ⟨by first | kernel_rfl | rfl, ?_⟩) (by assumption) ?_
          rotate_left
          · intro w hSw; (try dsimp only at hSw); (try go_split_ands); go_simp; first | done | with_reducible rfl
          try simp only [Act.put, List.getElem_toArray, List.getElem_cons_succ, List.getElem_cons_zero, List.setIfInBounds_toArray, List.set_cons_zero, List.set_cons_succ]
          refine wpAnyH_ready (rs := [6]) (by kernel_rfl) (by simp) ?_
          refine AllReadyH.cons rfl (fun K hK => ?_) AllReadyH.nil
          go_simp
          go_at_call 118
          go_split_ands
          refine Calls.mono (hd0 _ (k5.trans (by assumption))) ?_
          rintro e w4 ⟨rfl, hg4⟩
          have hgz := Grow.trans (a := X) (by assumption) hg4
          go_wp2_with fail
          refine hK.out _ _ ?_ (fun hHeld => ?_)
          · exact ⟨(cell_of_heap (hgz.heap k4) 0).trans rfl, (cell_of_heap (hgz.heap k4) 1).trans rfl, (cell_of_heap (hgz.heap k1) 0).trans rfl, hgz⟩
          clear hK K
          try simp only [Act.put, List.getElem_toArray, List.getElem_cons_succ, List.getElem_cons_zero, List.setIfInBounds_toArray, List.set_cons_zero, List.set_cons_succ]
          refine wpAnyH_ready (rs := [10]) (by kernel_rfl) (by simp) ?_
          refine AllReadyH.cons rfl (fun K hK => ?_) AllReadyH.nil
          go_simp
          go_at_call 118
          refine Calls.mono (hd8 _ (k5.trans hgz)) ?_
          rintro e w5 ⟨rfl, hg5⟩
          replace hgz := hgz.trans hg5
          clear hg4
          go_wp2_with fail
          refine hK.out _ _ ?_ (fun hHeld => ?_)
          · exact ⟨(cell_of_heap (hgz.heap k4) 0).trans rfl, (cell_of_heap (hgz.heap k4) 1).trans rfl, (cell_of_heap (hgz.heap k1) 0).trans rfl, hgz⟩
          clear hK K
          try simp only [Act.put, List.getElem_toArray, List.getElem_cons_succ, List.getElem_cons_zero, List.setIfInBounds_toArray, List.set_cons_zero, List.set_cons_succ]
          refine wpAnyH_take (i := 11) (v := ?_) rfl (by kernel_rfl) (by kernel_rfl) (by kernel_rfl) (fun _ _ _ h => h) (Or.inl ⟨by first | kernel_rfl | rfl, ?_⟩) (by assumption) ?_
          rotate_left
          · intro w hSw; (try dsimp only at hSw); (try go_split_ands); go_simp; first | done | with_reducible rfl
          try simp only [Act.put, List.getElem_toArray, List.getElem_cons_succ, List.getElem_cons_zero, List.setIfInBounds_toArray, List.set_cons_zero, List.set_cons_succ]
          refine wpAnyH_take (i := 12) (v := ?_) rfl (by kernel_rfl) (by kernel_rfl) (by kernel_rfl) (fun _ _ _ h => h) (Or.inl ⟨by first | kernel_rfl | rfl, ?_⟩) (by assumption) ?_
          rotate_left
          · intro w hSw; (try dsimp only at hSw); (try go_split_ands); go_simp; first | done | with_reducible rfl
          try simp only [Act.put, List.getElem_toArray, List.getElem_cons_succ, List.getElem_cons_zero, List.setIfInBounds_toArray, List.set_cons_zero, List.set_cons_succ]
          refine wpAnyH_take (i := 13) (v := ?_) rfl (by kernel_rfl) (by kernel_rfl) (by kernel_rfl) (fun _ _ _ h => h) (Or.inl ⟨by first | kernel_rfl | rfl, ?_⟩) (by assumption) ?_
          rotate_left
          · intro w hSw; (try dsimp only at hSw); (try go_split_ands); go_simp; first | done | with_reducible rfl
          try simp only [Act.put, List.getElem_toArray, List.getElem_cons_succ, List.getElem_cons_zero, List.setIfInBounds_toArray, List.set_cons_zero, List.set_cons_succ]
          refine wpAnyH_take (i := 14) (v := ?_) rfl (by kernel_rfl) (by kernel_rfl) (by kernel_rfl) (fun _ _ _ h => h) (Or.inl ⟨by first | kernel_rfl | rfl, ?_⟩) (by assumption) ?_
          rotate_left
          · intro w hSw; (try dsimp only at hSw); (try go_split_ands); go_simp; first | done | with_reducible rfl
          try simp only [Act.put, List.getElem_toArray, List.getElem_cons_succ, List.getElem_cons_zero, List.setIfInBounds_toArray, List.set_cons_zero, List.set_cons_succ]
          refine wpAnyH_done (by kernel_rfl) ?_ _
          refine Calm.normal ?_
          gi_wp2
          have hhl : Held (fun b => b < w.heap.size ∨ b = B ∨ b = C) X w5 := Held.of_grow hgz (by rintro b (hb | rfl | rfl); have := k5.size; omega; exact hXB; exact hXC)
          refine ⟨hhl, hgz.heap k1, hgz.heap k2, ?_, hgz.heap k4, k5.trans hgz, ⟨Nat.lt_of_lt_of_le hXB hgz.size, Nat.lt_of_lt_of_le hXC hgz.size⟩, KK.out.2.2.2.2.2.1 (by rw [KK.out.1, KK.out.2.1, HITq, decide_eq_false (show ¬ P = 0 by omega)]; simp)⟩
          rw [KK.out.2.2.2.1 hP2]
          exact hgz.heap k3
      · have t4 : ((p0 : Int) == y0) = false := by rw [beq_eq_false_iff_ne]; omega
        have HITq : (decide (1 < P) && (decide (y0 = p0) && decide (y8 = p1))) = false := by rw [decide_eq_false ha0]; simp
        clear ha0
        gi_wp2
        refine region_round (fun w' => w'.cell? ⟨q, 0, none⟩ = some (.int .u64 (p0 : Int)) ∧ w'.cell? ⟨q, 1, none⟩ = some (.int .u64 (p1 : Int)) ∧ w'.cell? ⟨w.heap.size, 0, none⟩ = some (.pointer p) ∧ Grow X w') (by kernel_rfl) (by kernel_rfl) ⟨cq0, cq1, cb0, grow_drew X⟩ (fun hHeld => ?_)
        refine wpAnyH_take (i := 0) (v := ?_) rfl (by kernel_rfl) (by kernel_rfl) (by kernel_rfl) (fun _ _ _ h => h) (Or.inl ⟨by first | kernel_rfl | rfl, ?_⟩) (by assumption) ?_
        rotate_left
        · intro w hSw; (try dsimp only at hSw); (try go_split_ands); go_simp; first | done | with_reducible rfl
        try simp only [Act.put, List.getElem_toArray, List.getElem_cons_zero, List.setIfInBounds_toArray, List.set_cons_zero, List.set_cons_succ]
        refine wpAnyH_take (i := 1) (v := ?_) rfl (by kernel_rfl) (by kernel_rfl) (by kernel_rfl) (fun _ _ _ h => h) (Or.inl ⟨by first | kernel_rfl | rfl, ?_⟩) (by assumption) ?_
        rotate_left
        · intro w hSw; (try dsimp only at hSw); (try go_split_ands); go_simp; first | done | with_reducible rfl
        try simp only [Act.put, List.getElem_toArray, List.getElem_cons_succ, List.getElem_cons_zero, List.setIfInBounds_toArray, List.set_cons_zero, List.set_cons_succ]
        refine wpAnyH_take (i := 2) (v := ?_) rfl (by kernel_rfl) (by kernel_rfl) (by kernel_rfl) (fun _ _ _ h => h) (Or.inl ⟨by first | kernel_rfl | rfl, ?_⟩) (by assumption) ?_
        rotate_left
        · intro w hSw; (try dsimp only at hSw); (try go_split_ands); go_simp; first | done | with_reducible rfl
        try simp only [Act.put, List.getElem_toArray, List.getElem_cons_succ, List.getElem_cons_zero, List.setIfInBounds_toArray, List.set_cons_zero, List.set_cons_succ]
        refine wpAnyH_take (i := 3) (v := ?_) rfl (by kernel_rfl) (by kernel_rfl) (by kernel_rfl) (fun _ _ _ h => h) (Or.inl ⟨by first | kernel_rfl | rfl, ?_⟩) (by assumption) ?_
        rotate_left
        · intro w hSw; (try dsimp only at hSw); (try go_split_ands); go_simp; first | done | with_reducible rfl
        try simp only [Act.put, List.getElem_toArray, List.getElem_cons_succ, List.getElem_cons_zero, List.setIfInBounds_toArray, List.set_cons_zero, List.set_cons_succ]
        refine wpAnyH_take (i := 4) (v := ?_) rfl (by kernel_rfl) (by kernel_rfl) (by kernel_rfl) (fun _ _ _ h => h) (Or.inl ⟨by first | kernel_rfl | rfl, ?_⟩) (by assumption) ?_
        rotate_left
        · intro w hSw; (try dsimp only at hSw); (try go_split_ands); go_simp; first | done | with_reducible rfl
        try simp only [Act.put, List.getElem_toArray, List.getElem_cons_succ, List.getElem_cons_zero, List.setIfInBounds_toArray, List.set_cons_zero, List.set_cons_succ]
        refine wpAnyH_take (i := 5) (v := ?_) rfl (by kernel_rfl) (by kernel_rfl) (by kernel_rfl) (fun _ _ _ h => h) (Or.inl ⟨by first | kernel_rfl | rfl, ?_⟩) (by assumption) ?_
        rotate_left
        · intro w hSw; (try dsimp only at hSw); (try go_split_ands); go_simp; first | done | with_reducible rfl
        try simp only [Act.put, List.getElem_toArray, List.getElem_cons_succ, List.getElem_cons_zero, List.setIfInBounds_toArray, List.set_cons_zero, List.set_cons_succ]
        refine wpAnyH_take (i := 7) (v := ?_) rfl (by kernel_rfl) (by kernel_rfl) (by kernel_rfl) (fun _ _ _ h => h) (Or.inl ⟨by first | kernel_rfl | rfl, ?_⟩) (by assumption) ?_
        rotate_left
        · intro w hSw; (try dsimp only at hSw); (try go_split_ands); go_simp; first | done | with_reducible rfl
        try simp only [Act.put, List.getElem_toArray, List.getElem_cons_succ, List.getElem_cons_zero, List.setIfInBounds_toArray, List.set_cons_zero, List.set_cons_succ]
        refine wpAnyH_take (i := 8) (v := ?_) rfl (by kernel_rfl) (by kernel_rfl) (by kernel_rfl) (fun _ _ _ h => h) (Or.inl ⟨by first | kernel_rfl | rfl, ?_⟩) (by assumption) ?_
        rotate_left
        · intro w hSw; (try dsimp only at hSw); (try go_split_ands); go_simp; first | done | with_reducible rfl
        try simp only [Act.put, List.getElem_toArray, List.getElem_cons_succ, List.getElem_cons_zero, List.setIfInBounds_toArray, List.set_cons_zero, List.set_cons_succ]
        refine wpAnyH_take (i := 9) (v := ?_) rfl (by kernel_rfl) (by kernel_rfl) (by kernel_rfl) (fun _ _ _ h => h) (Or.inl ⟨by first | kernel_rfl | rfl, ?_⟩) (by assumption) ?_
        rotate_left
        · intro w hSw; (try dsimp only at hSw); (try go_split_ands); go_simp; first | done | with_reducible rfl
        try simp only [Act.put, List.getElem_toArray, List.getElem_cons_succ, List.getElem_cons_zero, List.setIfInBounds_toArray, List.set_cons_zero, List.set_cons_succ]
        refine wpAnyH_ready (rs := [6]) (by kernel_rfl) (by simp) ?_
        refine AllReadyH.cons rfl (fun K hK => ?_) AllReadyH.nil
        go_simp
        go_at_call 118
        go_split_ands
        refine Calls.mono (hd0 _ (k5.trans (by assumption))) ?_
        rintro e w4 ⟨rfl, hg4⟩
        have hgz := Grow.trans (a := X) (by assumption) hg4
        go_wp2_with fail
        refine hK.out _ _ ?_ (fun hHeld => ?_)
        · exact ⟨(cell_of_heap (hgz.heap k4) 0).trans rfl, (cell_of_heap (hgz.heap k4) 1).trans rfl, (cell_of_heap (hgz.heap k1) 0).trans rfl, hgz⟩
        clear hK K
        try simp only [Act.put, List.getElem_toArray, List.getElem_cons_succ, List.getElem_cons_zero, List.setIfInBounds_toArray, List.set_cons_zero, List.set_cons_succ]
        refine wpAnyH_ready (rs := [10]) (by kernel_rfl) (by simp) ?_
        refine AllReadyH.cons rfl (fun K hK => ?_) AllReadyH.nil
        go_simp
        go_at_call 118
        refine Calls.mono (hd8 _ (k5.trans hgz)) ?_
        rintro e w5 ⟨rfl, hg5⟩
        replace hgz := hgz.trans hg5
        clear hg4
        go_wp2_with fail
        refine hK.out _ _ ?_ (fun hHeld => ?_)
        · exact ⟨(cell_of_heap (hgz.heap k4) 0).trans rfl, (cell_of_heap (hgz.heap k4) 1).trans rfl, (cell_of_heap (hgz.heap k1) 0).trans rfl, hgz⟩
        clear hK K
        try simp only [Act.put, List.getElem_toArray, List.getElem_cons_succ, List.getElem_cons_zero, List.setIfInBounds_toArray, List.set_cons_zero, List.set_cons_succ]
        refine wpAnyH_take (i := 11) (v := ?_) rfl (by kernel_rfl) (by kernel_rfl) (by kernel_rfl) (fun _ _ _ h => h) (Or.inl ⟨by first | kernel_rfl | rfl, ?_⟩) (by assumption) ?_
        rotate_left
        · intro w hSw; (try dsimp only at hSw); (try go_split_ands); go_simp; first | done | with_reducible rfl
        try simp only [Act.put, List.getElem_toArray, List.getElem_cons_succ, List.getElem_cons_zero, List.setIfInBounds_toArray, List.set_cons_zero, List.set_cons_succ]
        refine wpAnyH_take (i := 12) (v := ?_) rfl (by kernel_rfl) (by kernel_rfl) (by kernel_rfl) (fun _ _ _ h => h) (Or.inl ⟨by first | kernel_rfl | rfl, ?_⟩) (by assumption) ?_
        rotate_left
        · intro w hSw; (try dsimp only at hSw); (try go_split_ands); go_simp; first | done | with_reducible rfl
        try simp only [Act.put, List.getElem_toArray, List.getElem_cons_succ, List.getElem_cons_zero, List.setIfInBounds_toArray, List.set_cons_zero, List.set_cons_succ]
        refine wpAnyH_take (i := 13) (v := ?_) rfl (by kernel_rfl) (by kernel_rfl) (by kernel_rfl) (fun _ _ _ h => h) (Or.inl ⟨by first | kernel_rfl | rfl, ?_⟩) (by assumption) ?_
        rotate_left
        · intro w hSw; (try dsimp only at hSw); (try go_split_ands); go_simp; first | done | with_reducible rfl
        try simp only [Act.put, List.getElem_toArray, List.getElem_cons_succ, List.getElem_cons_zero, List.setIfInBounds_toArray, List.set_cons_zero, List.set_cons_succ]
        refine wpAnyH_take (i := 14) (v := ?_) rfl (by kernel_rfl) (by kernel_rfl) (by kernel_rfl) (fun _ _ _ h => h) (Or.inl ⟨by first | kernel_rfl | rfl, ?_⟩) (by assumption) ?_
        rotate_left
        · intro w hSw; (try dsimp only at hSw); (try go_split_ands); go_simp; first | done | with_reducible rfl
        try simp only [Act.put, List.getElem_toArray, List.getElem_cons_succ, List.getElem_cons_zero, List.setIfInBounds_toArray, List.set_cons_zero, List.set_cons_succ]
        refine wpAnyH_done (by kernel_rfl) ?_ _
        refine Calm.normal ?_
        gi_wp2
        have hhl : Held (fun b => b < w.heap.size ∨ b = B ∨ b = C) X w5 := Held.of_grow hgz (by rintro b (hb | rfl | rfl); have := k5.size; omega; exact hXB; exact hXC)
        refine ⟨hhl, hgz.heap k1, hgz.heap k2, ?_, hgz.heap k4, k5.trans hgz, ⟨Nat.lt_of_lt_of_le hXB hgz.size, Nat.lt_of_lt_of_le hXC hgz.size⟩, KK.out.2.2.2.2.2.1 (by rw [KK.out.1, KK.out.2.1, HITq, decide_eq_false (show ¬ P = 0 by omega)]; simp)⟩
        rw [KK.out.2.2.2.1 hP2]
        exact hgz.heap k3
  case done =>
    rintro D X hD ⟨k1, k2, k3, k4, k5, ⟨hXB, hXC⟩, k6⟩ hK
    obtain ⟨r1, r2⟩ := turn_none k6
    have R1 := Lib.hid r1
    have R2 := Lib.hid r2
    clear r1 r2 k6 hBB hCC hgz hB3 hS3 hR3 hW3 hG3 hsz hBC
    generalize roomN f H 16 = R at *
    have c2 : X.drew.cell? ⟨w.heap.size + 1, 0, none⟩ = some (.int .u64 0) := (cell_of_heap k2 0).trans rfl
    have c3 : X.drew.cell? ⟨w.heap.size + 1 + 1, 0, none⟩ = some (.int .u64 (R : Int)) := (cell_of_heap k3 0).trans rfl
    have f2 : X.drew.frozen? ⟨w.heap.size + 1, 0, none⟩ = false := frozen_of_heap k2 0
    have f3 : X.drew.frozen? ⟨w.heap.size + 1 + 1, 0, none⟩ = false := frozen_of_heap k3 0
    have H1 : (X.setCell ⟨w.heap.size + 1, 0, none⟩ (.int .u64 0)).drew.heap[w.heap.size + 1 + 1]? = some (.cells #[.int .u64 (R : Int)] 22 (0, 0)) := (Below.heap_setCell _ _ _ _ (by simp)).trans k3
    have H2 : ((X.setCell ⟨w.heap.size + 1, 0, none⟩ (.int .u64 0)).setCell ⟨w.heap.size + 1 + 1, 0, none⟩ (.int .u64 (R : Int))).drew.heap[w.heap.size + 1 + 1]? = some (.cells #[.int .u64 (R : Int)] 22 (0, 0)) := heap_setCell_row H1 (i := 0) _
    have H3 : ((X.setCell ⟨w.heap.size + 1, 0, none⟩ (.int .u64 0)).setCell ⟨w.heap.size + 1 + 1, 0, none⟩ (.int .u64 (R : Int))).drew.heap[w.heap.size + 1]? = some (.cells #[.int .u64 0] 22 (0, 0)) := (Below.heap_setCell _ _ _ _ (by simp)).trans (heap_setCell_row k2 (i := 0) _)
    have H4 : ((X.setCell ⟨w.heap.size + 1, 0, none⟩ (.int .u64 0)).setCell ⟨w.heap.size + 1 + 1, 0, none⟩ (.int .u64 (R : Int))).drew.heap[D]? = some (.deferred (some [])) := ((Below.heap_setCell _ _ _ _ (fun e => by rw [e] at hK; have := hK.symm.trans k3; cases this)).trans ((Below.heap_setCell _ _ _ _ (fun e => by rw [e] at hK; have := hK.symm.trans k2; cases this)).trans hK))
    have H5 : Grow w ((X.setCell ⟨w.heap.size + 1, 0, none⟩ (.int .u64 0)).setCell ⟨w.heap.size + 1 + 1, 0, none⟩ (.int .u64 (R : Int))).drew := ((k5.setCell (by simp) _).setCell (by simp; omega) _).drew
    gi_wp2
    refine wpIn_wide.2 ?_
    go_region_held3 (fun w' => w'.cell? ⟨w.heap.size + 1 + 1, 0, none⟩ = some (.int .u64 (R : Int)) ∧ w'.frozen? ⟨w.heap.size + 1 + 1, 0, none⟩ = false)
      (first | exact ⟨c3, f3⟩ | exact ⟨(cell_of_heap H1 0).trans rfl, frozen_of_heap H1 0⟩ | exact ⟨(cell_of_heap H2 0).trans rfl, frozen_of_heap H2 0⟩)
      (fail)
    generalize ((X.setCell ⟨w.heap.size + 1, 0, none⟩ (.int .u64 0)).setCell ⟨w.heap.size + 1 + 1, 0, none⟩ (.int .u64 (R : Int))).drew = Z at *
    gi_wp2
    refine marks_ret H4 (results_cells22 (g := w.heap.size + 1) (h := w.heap.size + 1 + 1) (x := 0) (y := (R : Int)) (fr := (0, 0)) (fr' := (0, 0)) rfl rfl rfl ?_ ?_) ⟨?_, ?_⟩
    · exact (World.putObj_heap_other (fun e => by rw [← e, H3] at H4; cases H4)).trans H3
    · exact (World.putObj_heap_other (fun e => by rw [← e, H2] at H4; cases H4)).trans H2
    · rw [R1.out, R2.out]; rfl
    · exact (Mild.putObj (n := w.heap.size) _ (by omega) H4 rfl).below H5 (Nat.le_refl _) H5.size
  case stop =>
    rintro D c i X hD hi ⟨rfl, k2, k3, k5⟩ hK
    gi_wp2
    refine marks_ret hK (results_cells22 (g := w.heap.size + 1) (h := w.heap.size + 1 + 1) (x := (standN f H p0 p1 : Int)) (y := (spotN f H p0 p1 : Int)) (fr := (0, 0)) (fr' := (0, 0)) rfl rfl rfl ?_ ?_) ⟨rfl, ?_⟩
    · exact (World.putObj_heap_other (fun e => by rw [← e, k2] at hK; cases hK)).trans k2
    · exact (World.putObj_heap_other (fun e => by rw [← e, k3] at hK; cases hK)).trans k3
    · exact (Mild.putObj (n := w.heap.size) _ (by omega) hK rfl).below k5 (Nat.le_refl _) k5.size

theorem look_call {w : World} {v : Value} {f : Nat → Nat} (h : TxAny w v f) (s : ByteArray) :
    Calls Try.prog 176 #[v, .string s] w fun e w' => e = .returned (.tuple #[.int .u64 (standS f s : Int), .int .u64 (spotS f s : Int)]) ∧ Grow w w' := by
  by_cases hok : okN s = true
  · have hs15 := (okN_iff s).1 hok
    have hp := pack64 s
    have e1 : standS f s = standN f (hN s) (n0 s) (n1 s) := if_pos hok
    have e2 : spotS f s = spotN f (hN s) (n0 s) (n1 s) := if_pos hok
    rw [hok] at hp
    rw [e1, e2]
    exact look_ok h s (n0 s) (n1 s) (hN s) (n01_lt s).1 (n01_lt s).2 (hsum_lt _) hp (fun w => hash s (by omega) w)
  · exact look_bad h s hok
end Go.Proofs.Ck

namespace Go.Proofs.Ck
open Go Go.RowKit

theorem und227 : Try.prog.underlying 227 = some (.array 3 22) := by kernel_rfl
@[go_sem] theorem index227_0 (a b c : Int) (w : World) : (Instr.index 227 (.agg #[.int .u64 a, .int .u64 b, .int .u64 c]) (.int .i64 0)).run Try.prog w = .ok (.int .u64 a) w := by
  have a3 := Try.isAgg22
  have z3 := Try.sizeOf22
  simp [Instr.index, run_underlying und227, asIntOf, go_sem, a3, z3]
@[go_sem] theorem index227_1 (a b c : Int) (w : World) : (Instr.index 227 (.agg #[.int .u64 a, .int .u64 b, .int .u64 c]) (.int .i64 1)).run Try.prog w = .ok (.int .u64 b) w := by
  have a3 := Try.isAgg22
  have z3 := Try.sizeOf22
  simp [Instr.index, run_underlying und227, asIntOf, go_sem, a3, z3]
@[go_sem] theorem index227_2 (a b c : Int) (w : World) : (Instr.index 227 (.agg #[.int .u64 a, .int .u64 b, .int .u64 c]) (.int .i64 2)).run Try.prog w = .ok (.int .u64 c) w := by
  have a3 := Try.isAgg22
  have z3 := Try.sizeOf22
  simp [Instr.index, run_underlying und227, asIntOf, go_sem, a3, z3]
theorem spot_place {f : Nat → Nat} {s : ByteArray} (hok : okN s = true) (h0 : standS f s = 0) : spotS f s = placeS f s := by
  unfold standS at h0
  unfold spotS
  rw [if_pos hok] at h0 ⊢
  exact spotN_room h0
theorem spotS_lt (f : Nat → Nat) (s : ByteArray) : spotS f s < 18446744073709551616 := by
  unfold spotS spotN
  split
  · split <;> exact roomN_lt _ _ _
  · omega
theorem standS_lt (f : Nat → Nat) (s : ByteArray) : standS f s < 3776 := by
  rcases standS_cases f s with h | ⟨_, j, hj, e, _⟩
  · omega
  · rw [e]; unfold sl; omega
theorem placeS_lt (f : Nat → Nat) (s : ByteArray) : placeS f s < 3776 := by
  rcases placeS_cases f s with h | ⟨j, hj, e, _⟩
  · omega
  · rw [e]; unfold sl; omega

set_option maxRecDepth 100000 in
theorem room_call {w : World} {v : Value} {f : Nat → Nat} (h : TxAny w v f) (s : ByteArray) :
    Calls Try.prog 129 #[v, .string s] w fun e w' => e = .returned (.int .i64 (roomE f s : Int)) ∧ Grow w w' := by
  obtain ⟨p, rfl⟩ := h.ptr
  have hp := pack64 s w
  by_cases hok : okN s = true
  · rw [hok] at hp
    have hl := fun w1 (hg : Grow w w1) => look_call (h.grow hg) s
    have hz := fun (h0 : standS f s = 0) => spot_place hok h0
    have hr : roomE f s = if standS f s = 0 then if placeS f s = 0 then 9 else 0 else 7 := by unfold roomE; rw [if_pos hok]
    rw [hr]
    generalize n0 s = p0 at *
    generalize n1 s = p1 at *
    generalize spotS f s = z at *
    generalize placeS f s = a at *
    generalize standS f s = x at *
    clear hr hok
    by_cases h0 : x = 0
    · obtain rfl := hz h0
      rw [if_pos h0]
      have t0 : ((x : Int) != 0) = false := by rw [bne_eq_false_iff_eq]; omega
      by_cases h1 : z = 0
      · rw [if_pos h1]
        have t1 : ((z : Int) == 0) = true := by rw [beq_iff_eq]; omega
        clear h0 h1 hz
        go_enter Try.func129, Try.ntmps129
        go_wp2_with fail
        refine hp.mono ?_
        rintro e w1 ⟨rfl, hg1⟩
        have hg2 := hg1.trans ((Below.refl _ _).alloc (Nat.le_refl _) (.cells #[.int .u64 (p0 : Int), .int .u64 (p1 : Int)] 37))
        go_wp2_with fail
        refine (hl _ hg2).mono ?_
        rintro e w2 ⟨rfl, hg3⟩
        clear hl hp
        go_wp2
        go_ret
        exact ⟨rfl, hg2.trans hg3⟩
      · rw [if_neg h1]
        have t1 : ((z : Int) == 0) = false := by rw [beq_eq_false_iff_ne]; omega
        clear h0 h1 hz
        go_enter Try.func129, Try.ntmps129
        go_wp2_with fail
        refine hp.mono ?_
        rintro e w1 ⟨rfl, hg1⟩
        have hg2 := hg1.trans ((Below.refl _ _).alloc (Nat.le_refl _) (.cells #[.int .u64 (p0 : Int), .int .u64 (p1 : Int)] 37))
        go_wp2_with fail
        refine (hl _ hg2).mono ?_
        rintro e w2 ⟨rfl, hg3⟩
        clear hl hp
        go_wp2
        go_ret
        exact ⟨rfl, hg2.trans hg3⟩
    · rw [if_neg h0]
      have t0 : ((x : Int) != 0) = true := by rw [bne_iff_ne]; omega
      clear h0 hz
      go_enter Try.func129, Try.ntmps129
      go_wp2_with fail
      refine hp.mono ?_
      rintro e w1 ⟨rfl, hg1⟩
      have hg2 := hg1.trans ((Below.refl _ _).alloc (Nat.le_refl _) (.cells #[.int .u64 (p0 : Int), .int .u64 (p1 : Int)] 37))
      go_wp2_with fail
      refine (hl _ hg2).mono ?_
      rintro e w2 ⟨rfl, hg3⟩
      clear hl hp
      go_wp2
      go_ret
      exact ⟨rfl, hg2.trans hg3⟩
  · have hf : okN s = false := by simpa using hok
    have hr : roomE f s = 8 := by unfold roomE; rw [if_neg hok]
    rw [hr]
    rw [hf] at hp
    clear hr hok hf
    go_enter Try.func129, Try.ntmps129
    go_wp2_with fail
    refine hp.mono ?_
    rintro e w1 ⟨rfl, hg1⟩
    clear hp
    go_wp2
    go_ret
    exact ⟨rfl, hg1.trans ((Below.refl _ _).alloc (Nat.le_refl _) _)⟩

set_option maxRecDepth 100000 in
theorem find_call {w : World} {v : Value} {f : Nat → Nat} (h : TxAny w v f) (s : ByteArray) :
    Calls Try.prog 127 #[v, .string s] w fun e w' => e = .returned (.tuple #[.int .u64 (findV f s : Int), .bool (findB f s)]) ∧ Grow w w' := by
  obtain ⟨p, rfl⟩ := h.ptr
  have hl := look_call h s
  have hx := standS_lt f s
  unfold findV findB
  by_cases h0 : standS f s = 0
  · rw [if_pos h0, decide_eq_false (fun hh => hh h0)]
    rw [h0] at hl
    clear h0 hx
    generalize spotS f s = z at *
    go_enter Try.func127, Try.ntmps127
    go_wp2_with fail
    refine hl.mono ?_
    rintro e w1 ⟨rfl, hg1⟩
    clear hl
    go_wp2
    refine bodyPost_ret (results_tmp2 rfl _ _ _) rfl ?_
    exact ⟨rfl, hg1⟩
  · rw [if_neg h0, decide_eq_true h0]
    have hd := fun w1 (hg : Grow w w1) => load_txany (h.grow hg) (standS f s + 16) (by omega)
    generalize spotS f s = z at *
    generalize f (standS f s + 16) = y at *
    generalize standS f s = x at *
    have t0 : ((x : Int) == 0) = false := by rw [beq_eq_false_iff_ne]; omega
    have e16 : IntKind.u64.wrap ((x : Int) + 16) = ((x + 16 : Nat) : Int) := by rw [IntKind.wrap_u64]; omega
    clear h0 hx
    go_enter Try.func127, Try.ntmps127
    go_wp2_with fail
    refine hl.mono ?_
    rintro e w1 ⟨rfl, hg1⟩
    clear hl
    go_wp2_with fail
    refine (hd _ hg1).mono ?_
    rintro e w2 ⟨rfl, hg2⟩
    clear hd
    go_wp2
    refine bodyPost_ret (results_tmp2 rfl _ _ _) rfl ?_
    exact ⟨rfl, hg1.trans hg2⟩

section
variable {base : Nat} {M0 : Nat → Prop} {w0 w w' : World} {v : Value} {σ : St} {bx : List Bx} {K : World → (Nat → Prop) → Prop}
theorem Ctx.storeC (h : Ctx base M0 w0 w v σ bx K) (hW : σ.W.length = 600) (a x : Nat) (ha : a < 18446744073709551616) (hx : x < 18446744073709551616) :
    Calls Try.prog 82 #[v, .int .u64 (a : Int), .int .u64 (x : Int)] w fun e w' => e = .returned (.tuple #[]) ∧ Ctx base M0 w0 w' v (σ.store a x) bx K :=
  h.write (r := .returned (.tuple #[])) fun M hM => store_call hM a x ha hx (by have := puts_few hM; omega)

set_option maxRecDepth 100000 in
theorem Ctx.ddrop (h : Ctx base M0 w0 w v σ bx K) (hW : σ.W.length = 600) (s : ByteArray) :
    Calls Try.prog 137 #[v, .string s] w fun e w' => e = .returned (.bool (findB σ.load s)) ∧ Ctx base M0 w0 w' v (dropS σ s) bx K := by
  obtain ⟨p, rfl⟩ := h.ptr
  have hl := h.read (look_call h.any s)
  have hx := standS_lt σ.load s
  unfold findB dropS
  by_cases h0 : standS σ.load s = 0
  · rw [if_pos h0, decide_eq_false (fun hh => hh h0)]
    rw [h0] at hl
    clear h0 hx
    generalize spotS σ.load s = z at *
    go_enter Try.func137, Try.ntmps137
    go_wp2_with fail
    refine hl.mono ?_
    rintro e w1 ⟨rfl, C1⟩
    clear hl h
    go_wp2
    go_ret
    exact ⟨rfl, C1⟩
  · rw [if_neg h0, decide_eq_true h0]
    have hd := fun w1 (C1 : Ctx base M0 w0 w1 (.pointer p) σ bx K) => C1.storeC hW (standS σ.load s + 16) 1 (by omega) (by omega)
    generalize spotS σ.load s = z at *
    generalize σ.store (standS σ.load s + 16) 1 = τ at *
    generalize standS σ.load s = x at *
    have t0 : ((x : Int) == 0) = false := by rw [beq_eq_false_iff_ne]; omega
    have e16 : IntKind.u64.wrap ((x : Int) + 16) = ((x + 16 : Nat) : Int) := by rw [IntKind.wrap_u64]; omega
    clear h0 hx
    go_enter Try.func137, Try.ntmps137
    go_wp2_with fail
    refine hl.mono ?_
    rintro e w1 ⟨rfl, C1⟩
    clear hl h
    go_wp2_with fail
    refine (show Calls _ _ #[_, _, .int .u64 1] _ _ from hd _ C1).mono ?_
    rintro e w2 ⟨rfl, C2⟩
    clear hd C1
    go_wp2
    go_ret
    exact ⟨rfl, C2⟩

/-- A slot's words, so many of them stored. -/
def stP (σ : St) (a p0 p1 off : Nat) : Nat → St
  | 0 => σ
  | 1 => σ.store a p0
  | 2 => (σ.store a p0).store (a + 8) p1
  | _ => ((σ.store a p0).store (a + 8) p1).store (a + 16) off
theorem stP_W (σ : St) (a p0 p1 off k : Nat) : (stP σ a p0 p1 off k).W = σ.W := by
  unfold stP
  split <;> simp [store_W]
set_option maxRecDepth 100000 in
set_option maxHeartbeats 1000000 in
theorem Ctx.dput (h : Ctx base M0 w0 w v σ bx K) (hW : σ.W.length = 600) (s : ByteArray) (off : Nat) (ho : off < 18446744073709551616) :
    Calls Try.prog 136 #[v, .string s, .int .u64 (off : Int)] w fun e w' => e = .returned (.int .i64 (putE σ.load s off : Int)) ∧ Ctx base M0 w0 w' v (putS σ s off) bx K := by
  obtain ⟨p, rfl⟩ := h.ptr
  have hr := h.read (room_call h.any s)
  by_cases hr0 : roomE σ.load s = 0
  · have hE : putE σ.load s off = if off < 2 then 1 else 0 := by unfold putE; rw [if_pos hr0]
    rw [hr0] at hr
    by_cases ho2 : off < 2
    · have hS : putS σ s off = σ := by unfold putS; rw [hE, if_pos ho2]; rfl
      rw [hE, if_pos ho2, hS]
      have t0 : decide ((off : Int) ≤ 1) = true := decide_eq_true (by omega)
      clear hE hS ho2 hr0
      go_enter Try.func136, Try.ntmps136
      go_wp2_with fail
      refine hr.mono ?_
      rintro e w1 ⟨rfl, C1⟩
      clear hr h
      go_wp2
      go_ret
      exact ⟨rfl, C1⟩
    · have hE0 : putE σ.load s off = 0 := by rw [hE, if_neg ho2]
      obtain ⟨hok, h0, hpl, _⟩ := putE_zero hE0
      have hS : putS σ s off = stP σ (placeS σ.load s) (n0 s) (n1 s) off 3 := by unfold putS; rw [if_pos hE0]; rfl
      rw [hE0, hS]
      have t0 : decide ((off : Int) ≤ 1) = false := decide_eq_false (by omega)
      have hp := fun w1 (C1 : Ctx base M0 w0 w1 (.pointer p) σ bx K) => C1.read (pack64 s w1)
      have hl := fun w1 (C1 : Ctx base M0 w0 w1 (.pointer p) σ ((w1.heap.size, #[.int .u64 (n0 s : Int), .int .u64 (n1 s : Int)], 37) :: bx) K) => C1
      have hlk := fun w1 (bx1 : List Bx) (C1 : Ctx base M0 w0 w1 (.pointer p) σ bx1 K) => C1.read (look_call C1.any s)
      rw [hok] at hp
      rw [h0, spot_place hok h0] at hlk
      have ha := placeS_lt σ.load s
      have hn := n01_lt s
      clear hE hS hE0 hr0 hl hpl h0 hok
      generalize placeS σ.load s = a at *
      generalize n0 s = p0 at *
      generalize n1 s = p1 at *
      go_enter Try.func136, Try.ntmps136
      go_wp2_with fail
      refine hr.mono ?_
      rintro e w1 ⟨rfl, C1⟩
      clear hr h
      go_wp2_with fail
      refine (hp _ C1).mono ?_
      rintro e w2 ⟨rfl, C2⟩
      clear C1 hp
      have C3 := C2.alloc #[.int .u64 (p0 : Int), .int .u64 (p1 : Int)] 37
      clear C2
      go_wp2_with fail
      generalize hq : w2.heap.size = q at *
      generalize w2.alloc (Obj.cells #[.int .u64 (p0 : Int), .int .u64 (p1 : Int)] 37) = w3 at *
      refine (hlk _ _ C3).mono ?_
      rintro e w4 ⟨rfl, C4⟩
      clear C3 hlk
      have b0 := C4.cell (List.mem_cons_self ..) 0
      have b1 := C4.cell (List.mem_cons_self ..) 1
      go_wp2
      clear b0 b1
      go_loopw [39] (fun i wr => ∃ k : Nat, k ≤ 3 ∧ i = .int .i64 (k : Int) ∧ Ctx base M0 w0 wr (.pointer p) (stP σ a p0 p1 off k) ((q, #[.int .u64 (p0 : Int), .int .u64 (p1 : Int)], 37) :: bx) K) (fun i _ => 3 - (intOf i).toNat)
      case atStart => exact ⟨0, by omega, rfl, C4⟩
      case round =>
        clear C4
        obtain ⟨k, hk, rfl, C4⟩ := hrel
        by_cases hlt : k < 3
        · obtain ⟨n1', hn1'⟩ := hn
          have hw3 : ∀ k, (stP σ a p0 p1 off k).W.length = 600 := fun k => by rw [stP_W]; exact hW
          have e8 : IntKind.u64.wrap ((a : Int) + 8) = ((a + 8 : Nat) : Int) := by rw [IntKind.wrap_u64]; omega
          have e0 : IntKind.u64.wrap ((a : Int)) = (a : Int) := by rw [IntKind.wrap_u64]; omega
          have e16 : IntKind.u64.wrap ((a : Int) + 16) = ((a + 16 : Nat) : Int) := by rw [IntKind.wrap_u64]; omega
          have hst := fun x y (hx : x < 18446744073709551616) (hy : y < 18446744073709551616) => C4.storeC (hw3 k) x y hx hy
          obtain rfl | rfl | rfl : k = 0 ∨ k = 1 ∨ k = 2 := by omega
          · have hs0 := hst a p0 (by omega) n1'
            clear hst
            go_wp2_with fail
            refine hs0.mono ?_
            rintro e w5 ⟨rfl, C5⟩
            clear hs0 C4
            go_wp2
            go_roundw
            case rel => exact ⟨1, by omega, rfl, C5⟩
            case measure => simp [intOf]
          · have hs0 := hst (a + 8) p1 (by omega) hn1'
            clear hst
            go_wp2_with fail
            refine hs0.mono ?_
            rintro e w5 ⟨rfl, C5⟩
            clear hs0 C4
            go_wp2
            go_roundw
            case rel => exact ⟨2, by omega, rfl, C5⟩
            case measure => simp [intOf]
          · have hs0 := hst (a + 16) off (by omega) ho
            clear hst
            go_wp2_with fail
            refine hs0.mono ?_
            rintro e w5 ⟨rfl, C5⟩
            clear hs0 C4
            go_wp2
            go_roundw
            case rel => exact ⟨3, by omega, rfl, C5⟩
            case measure => simp [intOf]
        · obtain rfl : k = 3 := by omega
          go_wp2
          go_ret
          exact ⟨rfl, C4.drop1⟩
  · have hE : putE σ.load s off = roomE σ.load s := by unfold putE; rw [if_neg hr0]
    have hS : putS σ s off = σ := by unfold putS; rw [hE, if_neg hr0]
    rw [hE, hS]
    clear hE hS
    generalize roomE σ.load s = E at *
    have t0 : ((E : Int) != 0) = true := by rw [bne_iff_ne]; omega
    clear hr0
    go_enter Try.func136, Try.ntmps136
    go_wp2_with fail
    refine hr.mono ?_
    rintro e w1 ⟨rfl, C1⟩
    clear hr h
    go_wp2
    go_ret
    exact ⟨rfl, C1⟩
end
end Go.Proofs.Ck

namespace Go.Proofs.Ck
open Go Go.RowKit

theorem results_cell4 {fn : Func} {tmps : Array Value} {p : Tmp} {W : World} {g : Nat} {x : Bool} {fr : Nat × Nat} (hf : fn.results = #[.cell p 4])
    (hp : tmps.getD p undef = .pointer (some ⟨g, 0, none⟩)) (hg : W.heap[g]? = some (.cells #[.bool x] 4 fr)) :
    (results fn tmps).run Try.prog W = .ok (.bool x) W := by
  have hp' : tmps[p]?.getD undef = .pointer (some ⟨g, 0, none⟩) := by simpa using hp
  have c0 : W.cell? ⟨g, 0, none⟩ = some (.bool x) := by rw [cell_of_heap hg]; rfl
  simp only [results, hf]
  go_simp
theorem namedB_true {f : Nat → Nat} {q i : Nat} (hi : i < 16) (h1 : 1 < q) (h2 : f (sl i + 16) = q) : namedB f q = true := by
  unfold namedB
  rw [List.any_eq_true]
  exact ⟨i, List.mem_range.2 hi, by simp [h1, h2]⟩
theorem namedB_false {f : Nat → Nat} {q : Nat} (h : ∀ j, j < 16 → ¬ (f (sl j + 16) = q ∧ 1 < q)) : namedB f q = false := by
  unfold namedB
  rw [List.any_eq_false]
  intro j hj
  have := h j (List.mem_range.1 hj)
  simp only [Bool.and_eq_true, decide_eq_true_eq]
  exact fun hh => this ⟨hh.2, hh.1⟩

attribute [local go_sem] Oper.semAt_some wide_fn wide_depth wide_in_fn wide_in_depth
set_option maxRecDepth 100000 in
set_option maxHeartbeats 1000000 in
theorem named_call {w : World} {v : Value} {f : Nat → Nat} (h : TxAny w v f) (q : Nat) (hq : q < 18446744073709551616) :
    Calls Try.prog 134 #[v, .int .u64 (q : Int)] w fun e w' => e = .returned (.bool (namedB f q)) ∧ Grow w w' := by
  obtain ⟨p, rfl⟩ := h.ptr
  have hga : Grow w ((w.alloc (.cells #[.int .u64 (q : Int)] 22)).alloc (.cells #[.bool false] 4)) := ((Below.refl _ _).alloc (Nat.le_refl _) _).alloc (by simp) _
  have hb0 : ((w.alloc (.cells #[.int .u64 (q : Int)] 22)).alloc (.cells #[.bool false] 4)).heap[w.heap.size]? = some (.cells #[.int .u64 (q : Int)] 22 (0, 0)) := (Below.heap_alloc _ _ _ (by simp)).trans (World.alloc_heap_new w _)
  have hb1 : ((w.alloc (.cells #[.int .u64 (q : Int)] 22)).alloc (.cells #[.bool false] 4)).heap[w.heap.size + 1]? = some (.cells #[.bool false] 4 (0, 0)) := by
    have := World.alloc_heap_new (w.alloc (.cells #[.int .u64 (q : Int)] 22)) (.cells #[.bool false] 4)
    rwa [World.size_alloc] at this
  refine calls_of_range Try.func134 rfl ?_
  simp only [Try.ntmps134, List.size_toArray, List.length_cons, List.length_nil, Nat.reduceAdd, Nat.reduceSub, Array.replicate_succ, Array.replicate_zero, List.push_toArray, List.append_toArray, List.nil_append, List.cons_append]
  gi_wp2_with (gi_at_call 180; refine (ranged (way_call _ _ _)).mono ?_; rintro e w3 ⟨B, C, rfl, hBge, hCge, hBC, hBB, hCC, hg3⟩)
  replace hBge : w.heap.size + 2 ≤ B := by simpa using hBge
  replace hCge : w.heap.size + 2 ≤ C := by simpa using hCge
  have hB3 := hg3.heap hb0
  have hS3 := hg3.heap hb1
  have hG3 := hga.trans hg3
  have hsz := lt_of_heap hBB
  have hww := hG3.size
  clear hb0 hb1 hga hg3
  refine wp_range (gf := 200) (lb := #[.pointer (some ⟨C, 0, none⟩), .pointer (some ⟨B, 0, none⟩)]) rfl (fun args w => Try.call200 args w)
    (way_iter h 0 (by omega) B C w3 hBB hCC (fun b hb => hG3.block b hb))
    (by rintro b (hb | rfl | rfl); omega; exact lt_of_heap hBB; exact lt_of_heap hCC) (fun _ => rfl)
    (fun i X => X.heap[w.heap.size]? = some (.cells #[.int .u64 (q : Int)] 22 (0, 0)) ∧ X.heap[w.heap.size + 1]? = some (.cells #[.bool false] 4 (0, 0)) ∧ Grow w X ∧ (∀ j, j < i → ¬ (f (sl j + 16) = q ∧ 1 < q)))
    (fun c i X => c = .ret ∧ X.heap[w.heap.size + 1]? = some (.cells #[.bool true] 4 (0, 0)) ∧ Grow w X ∧ namedB f q = true)
    (fun i A D hs hm => ⟨hm.heap hs.1, hm.heap hs.2.1, hm.below hs.2.2.1 (by omega) hs.2.2.1.size, hs.2.2.2⟩)
    (fun c i A D hs hm => ⟨hs.1, hm.heap hs.2.1, hm.below hs.2.2.1 (by omega) hs.2.2.1.size, hs.2.2.2⟩)
    ⟨hB3, hS3, hG3, fun j hj => absurd hj (by omega)⟩ ?a1 ?assign ?body ?done ?stop
  case assign =>
    intro l i X K hK
    gi_wp2
    exact hK
  case body =>
    rintro l i X hi ⟨k1, k2, k5, k6⟩
    have c1 : X.cell? ⟨w.heap.size, 0, none⟩ = some (.int .u64 (q : Int)) := by rw [cell_of_heap k1]; rfl
    have c2 : X.cell? ⟨w.heap.size + 1, 0, none⟩ = some (.bool false) := by rw [cell_of_heap k2]; rfl
    have f2 := frozen_of_heap k2 0
    have hP : pay f 0 i = f (sl i + 16) := by unfold pay; rw [Nat.zero_add]
    have hnm := fun (h1 : 1 < q) (h2 : f (sl i + 16) = q) => namedB_true hi h1 h2
    have hnext : ¬ (f (sl i + 16) = q ∧ 1 < q) → ∀ j, j < i + 1 → ¬ (f (sl j + 16) = q ∧ 1 < q) := fun h0 j hj => by
      by_cases e : j = i
      · rw [e]; exact h0
      · exact k6 j (by omega)
    have KK := Lib.hid (⟨hnm, hnext⟩ : _ ∧ _)
    clear hnm hnext k6 hBB hCC hB3 hS3 hG3
    rw [hP]
    clear hP
    generalize f (sl i + 16) = P at *
    by_cases h0 : P = q
    · subst h0
      have t0 : ((P : Int) == P) = true := by simp
      by_cases h1 : 1 < P
      · have t1 : decide ((1 : Int) < P) = true := decide_eq_true (by omega)
        have hnm := KK.out.1 h1 rfl
        have HN := Lib.hid hnm
        clear hnm h1
        gi_wp2
        exact ⟨(Held.refl _ _).setCell (by simp; omega) _, rfl, heap_setCell_row k2 (i := 0) _, k5.setCell (by simp) _, HN.out⟩
      · have t1 : decide ((1 : Int) < P) = false := decide_eq_false (by omega)
        have hnx := KK.out.2 (fun hh => h1 hh.2)
        have HN := Lib.hid hnx
        clear hnx h1
        gi_wp2
        exact ⟨Held.refl _ _, k1, k2, k5, fun j hj e => by have := HN.out j hj; omega⟩
    · have t0 : ((P : Int) == q) = false := by rw [beq_eq_false_iff_ne]; omega
      gi_wp2
      exact ⟨Held.refl _ _, k1, k2, k5, KK.out.2 (fun hh => h0 hh.1)⟩
  case done =>
    rintro D X hD ⟨k1, k2, k5, k6⟩ hK
    have hr := namedB_false k6
    have f2 := frozen_of_heap k2 0
    have c2 : X.cell? ⟨w.heap.size + 1, 0, none⟩ = some (.bool false) := by rw [cell_of_heap k2]; rfl
    clear k6 hBB hCC hB3 hS3 hG3
    have HR := Lib.hid hr
    clear hr
    gi_wp2
    have H2 := heap_setCell_row k2 (i := 0) (.bool false)
    have H4 : (X.setCell ⟨w.heap.size + 1, 0, none⟩ (.bool false)).heap[D]? = some (.deferred (some [])) := (Below.heap_setCell _ _ _ _ (fun e => by rw [e] at hK; have := hK.symm.trans k2; cases this)).trans hK
    refine marks_ret H4 (results_cell4 (g := w.heap.size + 1) (x := false) (fr := (0, 0)) rfl rfl ?_) ⟨?_, ?_⟩
    · exact (World.putObj_heap_other (fun e => by rw [← e] at H4; have := H4.symm.trans H2; cases this)).trans H2
    · rw [HR.out]
    · exact (Mild.putObj (n := w.heap.size) _ (by omega) H4 rfl).below (k5.setCell (by simp) _) (Nat.le_refl _) (by simpa [World.setCell] using k5.size)
  case stop =>
    rintro D c i X hD hi ⟨rfl, k2, k5, hr⟩ hK
    gi_wp2
    refine marks_ret hK (results_cell4 (g := w.heap.size + 1) (x := true) (fr := (0, 0)) rfl rfl ?_) ⟨?_, ?_⟩
    · exact (World.putObj_heap_other (fun e => by rw [← e] at hK; have := hK.symm.trans k2; cases this)).trans k2
    · rw [hr]
    · exact (Mild.putObj (n := w.heap.size) _ (by omega) hK rfl).below k5 (Nat.le_refl _) k5.size
end Go.Proofs.Ck

namespace Go.Proofs.Ck
open Go Go.RowKit

theorem info166 : (Try.prog.info? 166).map (fun i => (i.zero, i.size, i.bytes)) = some (some (.agg #[.string ByteArray.empty, .int .u64 0]), 2, 24) := by kernel_rfl
/-- Entries, cell by cell. -/
def ents (l : List (ByteArray × Nat)) : List Value := l.flatMap fun d => [.string d.1, .int .u64 (d.2 : Int)]
theorem ents_length (l : List (ByteArray × Nat)) : (ents l).length = l.length * 2 := by
  induction l with
  | nil => rfl
  | cons d l ih =>
    have e : ents (d :: l) = .string d.1 :: .int .u64 (d.2 : Int) :: ents l := rfl
    rw [e]
    simp only [List.length_cons, ih]
    omega
theorem ents_snoc (l : List (ByteArray × Nat)) (s : ByteArray) (o : Nat) : ents (l ++ [(s, o)]) = ents l ++ [.string s, .int .u64 (o : Int)] := by simp [ents]
theorem ents_get {l : List (ByteArray × Nat)} {i : Nat} {d : ByteArray × Nat} (h : l[i]? = some d) : (ents l)[i * 2]? = some (.string d.1) ∧ (ents l)[i * 2 + 1]? = some (.int .u64 (d.2 : Int)) := by
  induction l generalizing i with
  | nil => simp at h
  | cons e l ih =>
    have he : ents (e :: l) = .string e.1 :: .int .u64 (e.2 : Int) :: ents l := rfl
    cases i with
    | zero =>
      simp only [List.getElem?_cons_zero, Option.some.injEq] at h
      subst h
      exact ⟨rfl, rfl⟩
    | succ i =>
      rw [he, show (i + 1) * 2 = i * 2 + 1 + 1 by omega]
      simp only [List.getElem?_cons_succ] at h ⊢
      exact ih h
theorem ents_hit {f : Nat → Nat} {k : Nat} (h : 1 < f (sl k + 16) ∧ isName (f (sl k)) (f (sl k + 8))) : entsN f (k + 1) = entsN f k ++ [(nameOf (f (sl k)) (f (sl k + 8)), f (sl k + 16))] := by
  rw [ents_succ, if_pos h]
theorem ents_miss {f : Nat → Nat} {k : Nat} (h : ¬ (1 < f (sl k + 16) ∧ isName (f (sl k)) (f (sl k + 8)))) : entsN f (k + 1) = entsN f k := by
  rw [ents_succ, if_neg h, List.append_nil]

attribute [local go_sem] Oper.semAt_some wide_fn wide_depth wide_in_fn wide_in_depth
set_option maxRecDepth 100000 in
set_option maxHeartbeats 2000000 in
theorem dall_call {w : World} {v : Value} {f : Nat → Nat} (h : TxAny w v f) :
    Calls Try.prog 132 #[v] w fun e w' => ∃ A c, e = .returned (.slice A (entsN f 16).length c) ∧ Row (fun b => w.heap.size ≤ b) w' A (entsN f 16).length 2 (ents (entsN f 16)) ∧ Grow w w' := by
  obtain ⟨p, rfl⟩ := h.ptr
  have hga : Grow w ((w.alloc (.cells #[.pointer p] 65)).alloc (.cells #[.slice none 0 0] 152)) := ((Below.refl _ _).alloc (Nat.le_refl _) _).alloc (by simp) _
  have hb0 : ((w.alloc (.cells #[.pointer p] 65)).alloc (.cells #[.slice none 0 0] 152)).heap[w.heap.size]? = some (.cells #[.pointer p] 65 (0, 0)) := (Below.heap_alloc _ _ _ (by simp)).trans (World.alloc_heap_new w _)
  have hb1 : ((w.alloc (.cells #[.pointer p] 65)).alloc (.cells #[.slice none 0 0] 152)).heap[w.heap.size + 1]? = some (.cells #[.slice none 0 0] 152 (0, 0)) := by
    have := World.alloc_heap_new (w.alloc (.cells #[.pointer p] 65)) (.cells #[.slice none 0 0] 152)
    rwa [World.size_alloc] at this
  have c0 : ((w.alloc (.cells #[.pointer p] 65)).alloc (.cells #[.slice none 0 0] 152)).cell? ⟨w.heap.size, 0, none⟩ = some (.pointer p) := by rw [cell_of_heap hb0]; rfl
  obtain ⟨i166, hi3, hz3, hs3, hb3⟩ := info_parts info166
  refine calls_of_range Try.func132 rfl ?_
  simp only [Try.ntmps132, List.size_toArray, List.length_cons, List.length_nil, Nat.reduceAdd, Nat.reduceSub, Array.replicate_succ, Array.replicate_zero, List.push_toArray, List.append_toArray, List.nil_append, List.cons_append]
  gi_wp2_with (gi_at_call 180; refine (ranged (way_call _ _ _)).mono ?_; rintro e w3 ⟨B, C, rfl, hBge, hCge, hBC, hBB, hCC, hg3⟩)
  replace hBge : w.heap.size + 2 ≤ B := by simpa using hBge
  replace hCge : w.heap.size + 2 ≤ C := by simpa using hCge
  have hB3 := hg3.heap hb0
  have hS3 := hg3.heap hb1
  have hG3 := hga.trans hg3
  have hww := hG3.size
  clear hb0 hb1 hga hg3 c0
  refine wp_range (gf := 200) (lb := #[.pointer (some ⟨C, 0, none⟩), .pointer (some ⟨B, 0, none⟩)]) rfl (fun args w => Try.call200 args w)
    (way_iter h 0 (by omega) B C w3 hBB hCC (fun b hb => hG3.block b hb))
    (by rintro b (hb | rfl | rfl); omega; exact lt_of_heap hBB; exact lt_of_heap hCC) (fun _ => rfl)
    (fun i X => ∃ vv, X.heap[w.heap.size + 1]? = some (.cells #[vv] 152 (0, 0)) ∧ X.ownsRow w.heap.size 166 2 vv (entsN f i).length (ents (entsN f i)) ∧ X.heap[w.heap.size]? = some (.cells #[.pointer p] 65 (0, 0)) ∧
      X.heap[B]? = some (.cells #[.pointer p] 65 (0, 0)) ∧ X.heap[C]? = some (.cells #[.int .u64 0] 22 (0, 0)) ∧ Grow w X)
    (fun _ _ _ => False)
    (fun i A D hs hm => ?_) (fun _ _ _ _ hs _ => hs)
    ⟨.slice none 0 0, hS3, World.ownsRow_nil _ _ _ _, hB3, hBB, hCC, hG3⟩ ?a1 ?assign ?body ?done ?stop
  · obtain ⟨vv, k1, k2, k3, k4, k4', k5⟩ := hs
    refine ⟨vv, hm.heap k1, own_moved k2 (fun b hb => ?_), hm.heap k3, hm.heap k4, hm.heap k4', hm.below k5 (by omega) k5.size⟩
    obtain ⟨cur, hc⟩ := own_cells k2 hb
    exact (hm.heap hc).trans hc.symm
  case assign =>
    intro l i X K hK
    gi_wp2
    exact hK
  case body =>
    rintro l i X hi ⟨vv, k1, k2, k3, k4, k4', k5⟩
    have hd0 := fun W (hg : Grow w W) => load_txany (h.grow hg) (sl i) (by unfold sl; omega)
    have hd8 := fun W (hg : Grow w W) => load_txany (h.grow hg) (sl i + 8) (by unfold sl; omega)
    have hy0 := h.lt (sl i)
    have hy8 := h.lt (sl i + 8)
    have hP : pay f 0 i = f (sl i + 16) := by unfold pay; rw [Nat.zero_add]
    have hsl : sl (0 + i) = sl i := by rw [Nat.zero_add]
    have hal : sl i < 3776 := by unfold sl; omega
    have hln := ents_len f i
    have cb0 : X.cell? ⟨w.heap.size, 0, none⟩ = some (.pointer p) := by rw [cell_of_heap k3]; rfl
    try rw [hP]
    try rw [hsl]
    obtain ⟨L', hL'⟩ : ∃ L, entsN f (i + 1) = L := ⟨_, rfl⟩
    have hH := ents_hit (f := f) (k := i)
    have hM := ents_miss (f := f) (k := i)
    rw [hL'] at hH hM
    have HL := Lib.hid hL'
    clear hL' hP hsl hBB hCC hB3 hS3 hG3
    have hnm := fun W => name_call W (f (sl i)) (f (sl i + 8)) hy0 hy8
    generalize entsN f i = L at *
    generalize f (sl i + 16) = P at *
    generalize f (sl i + 8) = y8 at *
    generalize f (sl i) = y0 at *
    generalize sl i = a at *
    generalize nameOf y0 y8 = nmv at *
    obtain ⟨z, hz⟩ : ∃ z, decide (isName y0 y8) = z := ⟨_, rfl⟩
    rw [hz] at hnm
    have hH' : 1 < P ∧ z = true → L' = L ++ [(nmv, P)] := fun hh => hH ⟨hh.1, of_decide_eq_true (hz.trans hh.2)⟩
    have hM' : ¬ (1 < P ∧ z = true) → L' = L := fun hh => hM fun hc => hh ⟨hc.1, hz.symm.trans (decide_eq_true hc.2)⟩
    have KK := Lib.hid (⟨hH', hM'⟩ : _ ∧ _)
    clear hH' hM' hH hM hz
    have e8 : IntKind.u64.wrap ((a : Int) + 8) = ((a + 8 : Nat) : Int) := by rw [IntKind.wrap_u64]; omega
    gi_wp2
    refine region_round (fun w' => w'.cell? ⟨w.heap.size, 0, none⟩ = some (.pointer p) ∧ Grow X w') (by kernel_rfl) (by kernel_rfl) ⟨cb0, grow_drew X⟩ (fun hHeld => ?_)
    refine wpAnyH_take (i := 0) (v := ?_) rfl (by kernel_rfl) (by kernel_rfl) (by kernel_rfl) (fun _ _ _ h => h) (Or.inl ⟨by first | kernel_rfl | rfl, ?_⟩) (by assumption) ?_
    rotate_left
    · intro w hSw; (try dsimp only at hSw); (try go_split_ands); go_simp; first | done | with_reducible rfl
    try simp only [Act.put, List.getElem_toArray, List.getElem_cons_zero, List.setIfInBounds_toArray, List.set_cons_zero, List.set_cons_succ]
    refine wpAnyH_take (i := 1) (v := ?_) rfl (by kernel_rfl) (by kernel_rfl) (by kernel_rfl) (fun _ _ _ h => h) (Or.inl ⟨by first | kernel_rfl | rfl, ?_⟩) (by assumption) ?_
    rotate_left
    · intro w hSw; (try dsimp only at hSw); (try go_split_ands); go_simp; first | done | with_reducible rfl
    try simp only [Act.put, List.getElem_toArray, List.getElem_cons_succ, List.getElem_cons_zero, List.setIfInBounds_toArray, List.set_cons_zero, List.set_cons_succ]
    refine wpAnyH_take (i := 3) (v := ?_) rfl (by kernel_rfl) (by kernel_rfl) (by kernel_rfl) (fun _ _ _ h => h) (Or.inl ⟨by first | kernel_rfl | rfl, ?_⟩) (by assumption) ?_
    rotate_left
    · intro w hSw; (try dsimp only at hSw); (try go_split_ands); go_simp; first | done | with_reducible rfl
    try simp only [Act.put, List.getElem_toArray, List.getElem_cons_succ, List.getElem_cons_zero, List.setIfInBounds_toArray, List.set_cons_zero, List.set_cons_succ]
    refine wpAnyH_take (i := 4) (v := ?_) rfl (by kernel_rfl) (by kernel_rfl) (by kernel_rfl) (fun _ _ _ h => h) (Or.inl ⟨by first | kernel_rfl | rfl, ?_⟩) (by assumption) ?_
    rotate_left
    · intro w hSw; (try dsimp only at hSw); (try go_split_ands); go_simp; first | done | with_reducible rfl
    try simp only [Act.put, List.getElem_toArray, List.getElem_cons_succ, List.getElem_cons_zero, List.setIfInBounds_toArray, List.set_cons_zero, List.set_cons_succ]
    refine wpAnyH_take (i := 5) (v := ?_) rfl (by kernel_rfl) (by kernel_rfl) (by kernel_rfl) (fun _ _ _ h => h) (Or.inl ⟨by first | kernel_rfl | rfl, ?_⟩) (by assumption) ?_
    rotate_left
    · intro w hSw; (try dsimp only at hSw); (try go_split_ands); go_simp; first | done | with_reducible rfl
    try simp only [Act.put, List.getElem_toArray, List.getElem_cons_succ, List.getElem_cons_zero, List.setIfInBounds_toArray, List.set_cons_zero, List.set_cons_succ]
    refine wpAnyH_ready (rs := [2]) (by kernel_rfl) (by simp) ?_
    refine AllReadyH.cons rfl (fun K hK => ?_) AllReadyH.nil
    go_simp
    go_at_call 118
    go_split_ands
    refine Calls.mono (hd0 _ (k5.trans (by assumption))) ?_
    rintro e w4 ⟨rfl, hg4⟩
    have hgz := Grow.trans (a := X) (by assumption) hg4
    go_wp2_with fail
    refine hK.out _ _ ?_ (fun hHeld => ?_)
    · exact ⟨(cell_of_heap (hgz.heap k3) 0).trans rfl, hgz⟩
    clear hK K
    try simp only [Act.put, List.getElem_toArray, List.getElem_cons_succ, List.getElem_cons_zero, List.setIfInBounds_toArray, List.set_cons_zero, List.set_cons_succ]
    refine wpAnyH_ready (rs := [6]) (by kernel_rfl) (by simp) ?_
    refine AllReadyH.cons rfl (fun K hK => ?_) AllReadyH.nil
    go_simp
    go_at_call 118
    refine Calls.mono (hd8 _ (k5.trans hgz)) ?_
    rintro e w5 ⟨rfl, hg5⟩
    replace hgz := hgz.trans hg5
    clear hg4
    go_wp2_with fail
    refine hK.out _ _ ?_ (fun hHeld => ?_)
    · exact ⟨(cell_of_heap (hgz.heap k3) 0).trans rfl, hgz⟩
    clear hK K
    try simp only [Act.put, List.getElem_toArray, List.getElem_cons_succ, List.getElem_cons_zero, List.setIfInBounds_toArray, List.set_cons_zero, List.set_cons_succ]
    refine wpAnyH_take (i := 7) (v := ?_) rfl (by kernel_rfl) (by kernel_rfl) (by kernel_rfl) (fun _ _ _ h => h) (Or.inl ⟨by first | kernel_rfl | rfl, ?_⟩) (by assumption) ?_
    rotate_left
    · intro w hSw; (try dsimp only at hSw); (try go_split_ands); go_simp; first | done | with_reducible rfl
    try simp only [Act.put, List.getElem_toArray, List.getElem_cons_succ, List.getElem_cons_zero, List.setIfInBounds_toArray, List.set_cons_zero, List.set_cons_succ]
    refine wpAnyH_ready (rs := [8]) (by kernel_rfl) (by simp) ?_
    refine AllReadyH.cons rfl (fun K hK => ?_) AllReadyH.nil
    go_simp
    go_at_call 66
    refine Calls.mono (hnm _) ?_
    rintro e w6 ⟨rfl, hg6⟩
    replace hgz := hgz.trans hg6
    clear hg5
    go_wp2_with fail
    refine hK.out _ _ ?_ (fun hHeld => ?_)
    · exact ⟨(cell_of_heap (hgz.heap k3) 0).trans rfl, hgz⟩
    clear hK K
    try simp only [Act.put, List.getElem_toArray, List.getElem_cons_succ, List.getElem_cons_zero, List.setIfInBounds_toArray, List.set_cons_zero, List.set_cons_succ]
    refine wpAnyH_take (i := 9) (v := ?_) rfl (by kernel_rfl) (by kernel_rfl) (by kernel_rfl) (fun _ _ _ h => h) (Or.inl ⟨by first | kernel_rfl | rfl, ?_⟩) (by assumption) ?_
    rotate_left
    · intro w hSw; (try dsimp only at hSw); (try go_split_ands); go_simp; first | done | with_reducible rfl
    try simp only [Act.put, List.getElem_toArray, List.getElem_cons_succ, List.getElem_cons_zero, List.setIfInBounds_toArray, List.set_cons_zero, List.set_cons_succ]
    refine wpAnyH_take (i := 10) (v := ?_) rfl (by kernel_rfl) (by kernel_rfl) (by kernel_rfl) (fun _ _ _ h => h) (Or.inl ⟨by first | kernel_rfl | rfl, ?_⟩) (by assumption) ?_
    rotate_left
    · intro w hSw; (try dsimp only at hSw); (try go_split_ands); go_simp; first | done | with_reducible rfl
    try simp only [Act.put, List.getElem_toArray, List.getElem_cons_succ, List.getElem_cons_zero, List.setIfInBounds_toArray, List.set_cons_zero, List.set_cons_succ]
    refine wpAnyH_take (i := 11) (v := ?_) rfl (by kernel_rfl) (by kernel_rfl) (by kernel_rfl) (fun _ _ _ h => h) (Or.inl ⟨by first | kernel_rfl | rfl, ?_⟩) (by assumption) ?_
    rotate_left
    · intro w hSw; (try dsimp only at hSw); (try go_split_ands); go_simp; first | done | with_reducible rfl
    try simp only [Act.put, List.getElem_toArray, List.getElem_cons_succ, List.getElem_cons_zero, List.setIfInBounds_toArray, List.set_cons_zero, List.set_cons_succ]
    refine wpAnyH_take (i := 12) (v := ?_) rfl (by kernel_rfl) (by kernel_rfl) (by kernel_rfl) (fun _ _ _ h => h) (Or.inl ⟨by first | kernel_rfl | rfl, ?_⟩) (by assumption) ?_
    rotate_left
    · intro w hSw; (try dsimp only at hSw); (try go_split_ands); go_simp; first | done | with_reducible rfl
    try simp only [Act.put, List.getElem_toArray, List.getElem_cons_succ, List.getElem_cons_zero, List.setIfInBounds_toArray, List.set_cons_zero, List.set_cons_succ]
    refine wpAnyH_take (i := 13) (v := ?_) rfl (by kernel_rfl) (by kernel_rfl) (by kernel_rfl) (fun _ _ _ h => h) (Or.inl ⟨by first | kernel_rfl | rfl, ?_⟩) (by assumption) ?_
    rotate_left
    · intro w hSw; (try dsimp only at hSw); (try go_split_ands); go_simp; first | done | with_reducible rfl
    try simp only [Act.put, List.getElem_toArray, List.getElem_cons_succ, List.getElem_cons_zero, List.setIfInBounds_toArray, List.set_cons_zero, List.set_cons_succ]
    refine wpAnyH_done (by kernel_rfl) ?_ _
    refine Calm.normal ?_
    have hG6 := k5.trans hgz
    have q1 := hgz.heap k1
    have q2 := own_grow k2 hgz
    have q3 := hgz.heap k3
    have q4 := hgz.heap k4
    have q4' := hgz.heap k4'
    have hhl : Held (fun b => b < w.heap.size ∨ b = B ∨ b = C) X w6 := Held.of_grow hgz (by rintro b (hb | rfl | rfl); have := k5.size; omega; exact lt_of_heap k4; exact lt_of_heap k4')
    have hbase : w.heap.size ≤ w6.heap.size := hG6.size
    clear k1 k2 k3 k4 k4' k5 cb0 hd0 hd8 hnm hg6 hgz
    have c1 : w6.cell? ⟨w.heap.size + 1, 0, none⟩ = some vv := by rw [cell_of_heap q1]; rfl
    have f1 := frozen_of_heap q1 0
    have miss : ¬ (1 < P ∧ z = true) → ∃ vv, w6.heap[w.heap.size + 1]? = some (.cells #[vv] 152 (0, 0)) ∧ w6.ownsRow w.heap.size 166 2 vv L'.length (ents L') ∧ w6.heap[w.heap.size]? = some (.cells #[.pointer p] 65 (0, 0)) ∧
        w6.heap[B]? = some (.cells #[.pointer p] 65 (0, 0)) ∧ w6.heap[C]? = some (.cells #[.int .u64 0] 22 (0, 0)) ∧ Grow w w6 := fun hh => ⟨vv, q1, by rw [KK.out.2 hh]; exact q2, q3, q4, q4', hG6⟩
    cases z with
    | false =>
      have MM := Lib.hid (miss (fun hh => by cases hh.2))
      clear miss
      gi_wp2
      refine ⟨hhl, ?_⟩
      dsimp only
      rw [HL.out]
      exact MM.out
    | true =>
      by_cases hP1 : 1 < P
      · have t1 : decide ((1 : Int) < P) = true := decide_eq_true (by omega)
        have HE := Lib.hid (KK.out.1 ⟨hP1, rfl⟩)
        clear miss hP1
        gi_wp2_with (gi_at_builtin; refine wpListIn_push w6 rfl (.tmp 29) (.tmp 33) 152 rfl w.heap.size 166 i166 _ 2 24 Try.underlying152 hi3 hz3 hs3 hb3 rfl (by decide) vv L.length _ rfl q2 #[.string nmv, .int .u64 (P : Int)] rfl rfl (by simp [Value.oneCell']) rfl (by unfold maxLen; omega) (by omega) hbase ?_)
        intro v' w7 hown ho2
        obtain ⟨A', c', rfl⟩ : ∃ A c, v' = .slice A (L.length + 1) c := by
          obtain ⟨g, c, _, e, _⟩ := own_form hown (by omega)
          exact ⟨_, c, e⟩
        have hnT : ∀ {k : Nat} {c : Array Value} {t : TypeId} {f : Nat × Nat}, w6.heap[k]? = some (.cells c t f) → t ≠ 166 → ¬ vv.ownBlock = some k := fun hk ht e => by
          obtain ⟨cur, hc⟩ := own_cells q2 e
          rw [hk] at hc
          cases hc
          exact ht rfl
        have r1 := ho2.heap q1 (hnT q1 (by decide))
        have r3 := ho2.heap q3 (hnT q3 (by decide))
        have r4 := ho2.heap q4 (hnT q4 (by decide))
        have r4' := ho2.heap q4' (hnT q4' (by decide))
        have r5 : Grow w w7 := Below.trans hG6 (ho2.below hbase (own_ge q2))
        have hheld : Held (fun b => b < w.heap.size ∨ b = B ∨ b = C) w6 w7 := ⟨ho2.size, fun b hb => ho2.block b (by rcases hb with hb | rfl | rfl; omega; exact lt_of_heap q4; exact lt_of_heap q4') (fun e => by
          rcases hb with hb | rfl | rfl
          · have := own_ge q2 b e; omega
          · exact hnT q4 (by decide) e
          · exact hnT q4' (by decide) e), fun k o hk hc => ho2.heap hk (fun e => by
            obtain ⟨cur, hc'⟩ := own_cells q2 e
            rw [hk] at hc'
            cases hc'
            cases hc)⟩
        have c1' : w7.cell? ⟨w.heap.size + 1, 0, none⟩ = some vv := by rw [cell_of_heap r1]; rfl
        have f1' := frozen_of_heap r1 0
        clear c1 f1 q1 q3 q4 q4' hG6 ho2 hnT q2
        gi_wp2
        refine ⟨(hhl.trans hheld).setCell (by simp; omega) _, ?_⟩
        dsimp only
        rw [HL.out, HE.out]
        refine ⟨_, heap_setCell_row r1 _, ?_, ?_, ?_, ?_, r5.setCell (by simp) _⟩
        · rw [List.length_append, ents_snoc]
          refine own_moved hown (fun b hb => ?_)
          obtain ⟨cur, hc⟩ := own_cells hown hb
          exact Below.heap_setCell _ _ _ _ (fun (e : b = w.heap.size + 1) => by rw [e, r1] at hc; cases hc)
        · exact (Below.heap_setCell _ _ _ _ (by simp)).trans r3
        · exact (Below.heap_setCell _ _ _ _ (by simp; omega)).trans r4
        · exact (Below.heap_setCell _ _ _ _ (by simp; omega)).trans r4'
      · have t1 : decide ((1 : Int) < P) = false := decide_eq_false (by omega)
        have MM := Lib.hid (miss (fun hh => hP1 hh.1))
        clear miss hP1
        gi_wp2
        refine ⟨hhl, ?_⟩
        dsimp only
        rw [HL.out]
        exact MM.out
  case done =>
    rintro D X hD ⟨vv, k1, k2, k3, k4, k4', k5⟩ hK
    have c1 : X.cell? ⟨w.heap.size + 1, 0, none⟩ = some vv := by rw [cell_of_heap k1]; rfl
    have k2' : (X.putObj D (.deferred none)).ownsRow w.heap.size 166 2 vv (entsN f 16).length (ents (entsN f 16)) := own_moved k2 (fun b hb => by
      obtain ⟨cur, hc⟩ := own_cells k2 hb
      exact World.putObj_heap_other (fun e => by rw [e, hK] at hc; cases hc))
    obtain ⟨A, c, rfl, -, -, hr⟩ := Row.of_own k2'
    gi_wp2
    refine marks_ret hK (results_tmp rfl _ _ _) ?_
    have hm : Mild w.heap.size X (X.putObj D (.deferred none)) := Mild.putObj (n := w.heap.size) _ (by omega) hK rfl
    exact ⟨A, c, rfl, hr, hm.below k5 (Nat.le_refl _) k5.size⟩
  case stop =>
    rintro D c i X _ _ h _
    exact h.elim
end Go.Proofs.Ck
