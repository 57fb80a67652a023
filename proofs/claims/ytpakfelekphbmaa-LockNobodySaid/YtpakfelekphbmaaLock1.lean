/- The lock: who has it, and the words by which it is taken and left. -/
import Derived.Test.YtpakfelekphbmaaFormed0
import Derived.Laws.ResultCell
namespace Go.Proofs.Ck
open Go Go.RowKit

/-- Words that are thought of, or nobody's. -/
def TxAny (w : World) (v : Value) (f : Nat → Nat) : Prop := (v = .pointer none ∧ f = fun _ => 0) ∨ ∃ base M σ, TxAt w base v M σ ∧ f = σ.load
theorem TxAny.grow {w w' : World} {v : Value} {f : Nat → Nat} (h : TxAny w v f) (hg : Grow w w') : TxAny w' v f := by
  rcases h with h | ⟨base, M, σ, h, e⟩
  · exact .inl h
  · exact .inr ⟨base, M, σ, h.grow hg, e⟩
theorem TxAt.any {w : World} {base : Nat} {v : Value} {M : Nat → Prop} {σ : St} (h : TxAt w base v M σ) : TxAny w v σ.load := .inr ⟨base, M, σ, h, rfl⟩
theorem load_lt {w : World} {base : Nat} {v : Value} {M : Nat → Prop} {σ : St} (h : TxAt w base v M σ) (off : Nat) : σ.load off < 18446744073709551616 := by
  unfold St.load
  cases hl : plook σ.p off with
  | none => exact old_lt h.words off
  | some x =>
    have := plook_val hl
    obtain ⟨tb, mb, T, sb, bb, cap, cs, h1, rfl, h3⟩ := h
    exact (h3.dom _ this).2.2
theorem TxAny.lt {w : World} {v : Value} {f : Nat → Nat} (h : TxAny w v f) (off : Nat) : f off < 18446744073709551616 := by
  rcases h with ⟨_, rfl⟩ | ⟨base, M, σ, h, rfl⟩
  · show 0 < _; omega
  · exact load_lt h off
theorem load_txany {w : World} {v : Value} {f : Nat → Nat} (h : TxAny w v f) (off : Nat) (ho : off < 18446744073709551616) :
    Calls Try.prog 118 #[v, .int .u64 (off : Int)] w fun e w' => e = .returned (.int .u64 ((f off : Nat) : Int)) ∧ Grow w w' := by
  rcases h with ⟨rfl, rfl⟩ | ⟨base, M, σ, h, rfl⟩
  · exact (load_nil_tx w off).mono fun e w' ⟨h1, h2⟩ => ⟨h1, h2 ▸ Below.refl _ _⟩
  · exact load_call h off ho

theorem holder_ok {w : World} {v : Value} {f : Nat → Nat} (h : TxAny w v f) (h1 : 1 ≤ f 24) (h8 : f 24 ≤ 8) :
    Calls Try.prog 75 #[v] w fun e w' => e = .returned (.tuple #[.int .i64 ((f 24 - 1 : Nat) : Int), .bool true]) ∧ Grow w w' := by
  have hl := load_txany h 24 (by omega)
  generalize f 24 = x at *
  have t0 : decide ((x : Int) < 1) = false := decide_eq_false (by omega)
  have t1 : decide ((8 : Int) < x) = false := decide_eq_false (by omega)
  have e2 : IntKind.i64.wrap (x : Int) = (x : Int) := by rw [IntKind.wrap_i64]; omega
  go_enter Try.func75, Try.ntmps75
  go_wp2_with fail
  refine hl.mono ?_
  rintro e w' ⟨rfl, hg⟩
  go_wp2
  go_ret2
  exact ⟨by simp; omega, hg⟩
theorem holder_bad {w : World} {v : Value} {f : Nat → Nat} (h : TxAny w v f) (h1 : ¬ (1 ≤ f 24 ∧ f 24 ≤ 8)) :
    Calls Try.prog 75 #[v] w fun e w' => e = .returned (.tuple #[.int .i64 0, .bool false]) ∧ Grow w w' := by
  have hl := load_txany h 24 (by omega)
  generalize f 24 = x at *
  by_cases hx : x < 1
  · have t0 : decide ((x : Int) < 1) = true := decide_eq_true (by omega)
    go_enter Try.func75, Try.ntmps75
    go_wp2_with fail
    refine hl.mono ?_
    rintro e w' ⟨rfl, hg⟩
    go_wp2
    go_ret2
    exact ⟨rfl, hg⟩
  · have t0 : decide ((x : Int) < 1) = false := decide_eq_false (by omega)
    have t1 : decide ((8 : Int) < x) = true := decide_eq_true (by omega)
    go_enter Try.func75, Try.ntmps75
    go_wp2_with fail
    refine hl.mono ?_
    rintro e w' ⟨rfl, hg⟩
    go_wp2
    go_ret2
    exact ⟨rfl, hg⟩

theorem info73s : (Try.prog.info? 73).map (·.size) = some 2 := by kernel_rfl
theorem results_cell_tmp73 {fn : Func} {R : Ending → World → Prop} {tmps : Array Value} {p u : Tmp} {W : World} {g : Nat} {cs : Array Value} {fr : Nat × Nat} {x : Value} (hf : fn.results = #[.cell p 73, .tmp u])
    (hp : tmps.getD p undef = .pointer (some ⟨g, 0, none⟩)) (hu : tmps.getD u undef = x) (hg : W.heap[g]? = some (.cells cs 73 fr)) (h2 : cs.size = 2) (hR : R (.returned (.tuple #[.agg cs, x])) W) :
    bodyPost Try.prog fn R .ret ⟨tmps, []⟩ W := by
  refine bodyPost_ret (v := .tuple #[.agg cs, x]) ?_ rfl hR
  have hp' : tmps[p]?.getD undef = .pointer (some ⟨g, 0, none⟩) := by simpa using hp
  have hu' : tmps[u]?.getD undef = x := by simpa using hu
  rw [results_cell_tmp hf]
  simp [hp', hu', asAddr, Result.andThen, run_loadVar_row W g 73 73 cs fr _ hg Try.underlying73 rfl (info73s.trans (by rw [h2]))]

theorem take_ok (w : World) (c : Nat) (hc : c < 8) : Calls Try.prog 77 #[.int .i64 (c : Int)] w fun e w' => e = .returned (.tuple #[.agg #[.int .u64 24, .int .u64 ((c + 1 : Nat) : Int)], .int .i64 0]) ∧ Grow w w' := by
  have t0 : decide ((c : Int) < 0) = false := decide_eq_false (by omega)
  have t1 : decide ((8 : Int) ≤ c) = false := decide_eq_false (by omega)
  have e2 : IntKind.u64.wrap (c : Int) = (c : Int) := by rw [IntKind.wrap_u64]; omega
  go_enter Try.func77, Try.ntmps77
  go_wp2
  exact results_cell_tmp73 (g := w.heap.size) rfl rfl rfl (World.alloc_heap_new w _) rfl ⟨rfl, (Below.refl _ _).alloc (Nat.le_refl _) _⟩
theorem take_bad (w : World) (c : Int) (hc : ¬ (0 ≤ c ∧ c < 8)) : Calls Try.prog 77 #[.int .i64 c] w fun e w' => e = .returned (.tuple #[.agg #[.int .u64 0, .int .u64 0], .int .i64 1]) ∧ Grow w w' := by
  by_cases h0 : c < 0
  · have t0 : decide (c < 0) = true := decide_eq_true h0
    go_enter Try.func77, Try.ntmps77
    go_wp2
    exact results_cell_tmp73 (g := w.heap.size) rfl rfl rfl (World.alloc_heap_new w _) rfl ⟨rfl, (Below.refl _ _).alloc (Nat.le_refl _) _⟩
  · have t0 : decide (c < 0) = false := decide_eq_false h0
    have t1 : decide (8 ≤ c) = true := decide_eq_true (by omega)
    go_enter Try.func77, Try.ntmps77
    go_wp2
    exact results_cell_tmp73 (g := w.heap.size) rfl rfl rfl (World.alloc_heap_new w _) rfl ⟨rfl, (Below.refl _ _).alloc (Nat.le_refl _) _⟩
/-- A pair of words comes back, out of a cell. -/
theorem ret_put {fn : Func} {R : Ending → World → Prop} {tmps : Array Value} {p : Tmp} {W : World} {g : Nat} {cs : Array Value} {fr : Nat × Nat} (hf : fn.results = #[.cell p 73])
    (hp : tmps.getD p undef = .pointer (some ⟨g, 0, none⟩)) (hg : W.heap[g]? = some (.cells cs 73 fr)) (h2 : cs.size = 2) (hR : R (.returned (.agg cs)) W) :
    bodyPost Try.prog fn R .ret ⟨tmps, []⟩ W :=
  bodyPost_ret (results_cell_row hf tmps W g 73 cs fr _ hp hg Try.underlying73 rfl (info73s.trans (by rw [h2]))) rfl hR
theorem leave (w : World) : Calls Try.prog 81 #[] w fun e w' => e = .returned (.agg #[.int .u64 24, .int .u64 0]) ∧ Grow w w' := by
  go_enter Try.func81, Try.ntmps81
  go_wp2
  exact ret_put (g := w.heap.size) rfl rfl (World.alloc_heap_new w _) rfl ⟨rfl, (Below.refl _ _).alloc (Nat.le_refl _) _⟩
end Go.Proofs.Ck
