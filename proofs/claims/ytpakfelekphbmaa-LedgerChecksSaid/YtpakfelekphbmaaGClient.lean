/- Parts of the proofs of this seat's laws. -/
import Derived.Test.YtpakfelekphbmaaGTx
import Derived.Laws.ResultCell

namespace Go.Proofs.Ck
open Go Go.RowKit

/-- Words that are thought of, or nobody's. -/
def TxAny (w : World) (v : Value) (f : Nat → Nat) : Prop := (v = .pointer none ∧ f = fun _ => 0) ∨ ∃ base M σ, TxAt w base v M σ ∧ f = σ.load
theorem TxAny.grow {w w' : World} {v : Value} {f : Nat → Nat} (h : TxAny w v f) (hg : Grow w w') : TxAny w' v f := by
  rcases h with h | ⟨base, M, σ, h, e⟩
  · exact .inl h
  · exact .inr ⟨base, M, σ, h.grow hg, e⟩
theorem TxAt.any {w : World} {base : Nat} {v : Value} {M : Nat → Prop} {σ : St} (h : TxAt w base v M σ) : TxAny w v σ.load := .inr ⟨base, M, σ, h, rfl⟩
theorem load_lt {w : World} {base : Nat} {v : Value} {M : Nat → Prop} {σ : St} (h : TxAt w base v M σ) (off : Nat) : σ.load off < 18446744073709551616 := by
  unfold St.load
  cases hl : plook σ.p off with
  | none => exact old_lt h.words off
  | some x =>
    have := plook_val hl
    obtain ⟨tb, mb, T, sb, bb, cap, cs, h1, rfl, h3⟩ := h
    exact (h3.dom _ this).2.2
theorem TxAny.lt {w : World} {v : Value} {f : Nat → Nat} (h : TxAny w v f) (off : Nat) : f off < 18446744073709551616 := by
  rcases h with ⟨_, rfl⟩ | ⟨base, M, σ, h, rfl⟩
  · show 0 < _; omega
  · exact load_lt h off
theorem load_txany {w : World} {v : Value} {f : Nat → Nat} (h : TxAny w v f) (off : Nat) (ho : off < 18446744073709551616) :
    Calls Try.prog 118 #[v, .int .u64 (off : Int)] w fun e w' => e = .returned (.int .u64 ((f off : Nat) : Int)) ∧ Grow w w' := by
  rcases h with ⟨rfl, rfl⟩ | ⟨base, M, σ, h, rfl⟩
  · exact (load_nil_tx w off).mono fun e w' ⟨h1, h2⟩ => ⟨h1, h2 ▸ Below.refl _ _⟩
  · exact load_call h off ho

theorem holder_ok {w : World} {v : Value} {f : Nat → Nat} (h : TxAny w v f) (h1 : 1 ≤ f 24) (h8 : f 24 ≤ 8) :
    Calls Try.prog 75 #[v] w fun e w' => e = .returned (.tuple #[.int .i64 ((f 24 - 1 : Nat) : Int), .bool true]) ∧ Grow w w' := by
  have hl := load_txany h 24 (by omega)
  generalize f 24 = x at *
  have t0 : decide ((x : Int) < 1) = false := decide_eq_false (by omega)
  have t1 : decide ((8 : Int) < x) = false := decide_eq_false (by omega)
  have e2 : IntKind.i64.wrap (x : Int) = (x : Int) := by rw [IntKind.wrap_i64]; omega
  go_enter Try.func75, Try.ntmps75
  go_wp2_with fail
  refine hl.mono ?_
  rintro e w' ⟨rfl, hg⟩
  go_wp2
  go_ret2
  exact ⟨by simp; omega, hg⟩
theorem holder_bad {w : World} {v : Value} {f : Nat → Nat} (h : TxAny w v f) (h1 : ¬ (1 ≤ f 24 ∧ f 24 ≤ 8)) :
    Calls Try.prog 75 #[v] w fun e w' => e = .returned (.tuple #[.int .i64 0, .bool false]) ∧ Grow w w' := by
  have hl := load_txany h 24 (by omega)
  generalize f 24 = x at *
  by_cases hx : x < 1
  · have t0 : decide ((x : Int) < 1) = true := decide_eq_true (by omega)
    go_enter Try.func75, Try.ntmps75
    go_wp2_with fail
    refine hl.mono ?_
    rintro e w' ⟨rfl, hg⟩
    go_wp2
    go_ret2
    exact ⟨rfl, hg⟩
  · have t0 : decide ((x : Int) < 1) = false := decide_eq_false (by omega)
    have t1 : decide ((8 : Int) < x) = true := decide_eq_true (by omega)
    go_enter Try.func75, Try.ntmps75
    go_wp2_with fail
    refine hl.mono ?_
    rintro e w' ⟨rfl, hg⟩
    go_wp2
    go_ret2
    exact ⟨rfl, hg⟩

theorem info73s : (Try.prog.info? 73).map (·.size) = some 2 := by kernel_rfl
theorem results_cell_tmp73 {fn : Func} {R : Ending → World → Prop} {tmps : Array Value} {p u : Tmp} {W : World} {g : Nat} {cs : Array Value} {fr : Nat × Nat} {x : Value} (hf : fn.results = #[.cell p 73, .tmp u])
    (hp : tmps.getD p undef = .pointer (some ⟨g, 0, none⟩)) (hu : tmps.getD u undef = x) (hg : W.heap[g]? = some (.cells cs 73 fr)) (h2 : cs.size = 2) (hR : R (.returned (.tuple #[.agg cs, x])) W) :
    bodyPost Try.prog fn R .ret ⟨tmps, []⟩ W := by
  refine bodyPost_ret (v := .tuple #[.agg cs, x]) ?_ rfl hR
  have hp' : tmps[p]?.getD undef = .pointer (some ⟨g, 0, none⟩) := by simpa using hp
  have hu' : tmps[u]?.getD undef = x := by simpa using hu
  rw [results_cell_tmp hf]
  simp [hp', hu', asAddr, Result.andThen, run_loadVar_row W g 73 73 cs fr _ hg Try.underlying73 rfl (info73s.trans (by rw [h2]))]

theorem take_ok (w : World) (c : Nat) (hc : c < 8) : Calls Try.prog 77 #[.int .i64 (c : Int)] w fun e w' => e = .returned (.tuple #[.agg #[.int .u64 24, .int .u64 ((c + 1 : Nat) : Int)], .int .i64 0]) ∧ Grow w w' := by
  have t0 : decide ((c : Int) < 0) = false := decide_eq_false (by omega)
  have t1 : decide ((8 : Int) ≤ c) = false := decide_eq_false (by omega)
  have e2 : IntKind.u64.wrap (c : Int) = (c : Int) := by rw [IntKind.wrap_u64]; omega
  go_enter Try.func77, Try.ntmps77
  go_wp2
  exact results_cell_tmp73 (g := w.heap.size) rfl rfl rfl (World.alloc_heap_new w _) rfl ⟨rfl, (Below.refl _ _).alloc (Nat.le_refl _) _⟩
theorem take_bad (w : World) (c : Int) (hc : ¬ (0 ≤ c ∧ c < 8)) : Calls Try.prog 77 #[.int .i64 c] w fun e w' => e = .returned (.tuple #[.agg #[.int .u64 0, .int .u64 0], .int .i64 1]) ∧ Grow w w' := by
  by_cases h0 : c < 0
  · have t0 : decide (c < 0) = true := decide_eq_true h0
    go_enter Try.func77, Try.ntmps77
    go_wp2
    exact results_cell_tmp73 (g := w.heap.size) rfl rfl rfl (World.alloc_heap_new w _) rfl ⟨rfl, (Below.refl _ _).alloc (Nat.le_refl _) _⟩
  · have t0 : decide (c < 0) = false := decide_eq_false h0
    have t1 : decide (8 ≤ c) = true := decide_eq_true (by omega)
    go_enter Try.func77, Try.ntmps77
    go_wp2
    exact results_cell_tmp73 (g := w.heap.size) rfl rfl rfl (World.alloc_heap_new w _) rfl ⟨rfl, (Below.refl _ _).alloc (Nat.le_refl _) _⟩
/-- A pair of words comes back, out of a cell. -/
theorem ret_put {fn : Func} {R : Ending → World → Prop} {tmps : Array Value} {p : Tmp} {W : World} {g : Nat} {cs : Array Value} {fr : Nat × Nat} (hf : fn.results = #[.cell p 73])
    (hp : tmps.getD p undef = .pointer (some ⟨g, 0, none⟩)) (hg : W.heap[g]? = some (.cells cs 73 fr)) (h2 : cs.size = 2) (hR : R (.returned (.agg cs)) W) :
    bodyPost Try.prog fn R .ret ⟨tmps, []⟩ W :=
  bodyPost_ret (results_cell_row hf tmps W g 73 cs fr _ hp hg Try.underlying73 rfl (info73s.trans (by rw [h2]))) rfl hR
theorem leave (w : World) : Calls Try.prog 81 #[] w fun e w' => e = .returned (.agg #[.int .u64 24, .int .u64 0]) ∧ Grow w w' := by
  go_enter Try.func81, Try.ntmps81
  go_wp2
  exact ret_put (g := w.heap.size) rfl rfl (World.alloc_heap_new w _) rfl ⟨rfl, (Below.refl _ _).alloc (Nat.le_refl _) _⟩
end Go.Proofs.Ck

namespace Go.Proofs.Ck
open Go Go.RowKit

theorem word_ok (w : World) (c what : Nat) (hc : c < 8) (h8 : what % 8 = 0) (hw : what < 416) :
    Calls Try.prog 96 #[.int .i64 (c : Int), .int .u64 (what : Int)] w fun e w' => e = .returned (.tuple #[.int .u64 ((64 + 416 * c + what : Nat) : Int), .bool true]) ∧ w = w' := by
  have t0 : decide ((c : Int) < 0) = false := decide_eq_false (by omega)
  have t1 : decide ((8 : Int) ≤ c) = false := decide_eq_false (by omega)
  have t2 : ((what : Int) % 8 != 0) = false := by rw [← Bool.not_eq_true, bne_iff_ne]; omega
  have t3 : decide ((416 : Int) ≤ what) = false := decide_eq_false (by omega)
  have e2 : IntKind.u64.wrap (c : Int) = (c : Int) := by rw [IntKind.wrap_u64]; omega
  go_enter Try.func96, Try.ntmps96
  go_wp2
  go_ret2
  exact ⟨by simp, rfl⟩
theorem word_bad (w : World) (c : Int) (what : Nat) (h : ¬ (0 ≤ c ∧ c < 8 ∧ what % 8 = 0 ∧ what < 416)) :
    Calls Try.prog 96 #[.int .i64 c, .int .u64 (what : Int)] w fun e w' => e = .returned (.tuple #[.int .u64 0, .bool false]) ∧ w = w' := by
  by_cases h0 : c < 0
  · have t0 : decide (c < 0) = true := decide_eq_true h0
    go_enter Try.func96, Try.ntmps96
    go_wp2
    go_ret2
    exact ⟨rfl, rfl⟩
  · have t0 : decide (c < 0) = false := decide_eq_false h0
    by_cases h1 : 8 ≤ c
    · have t1 : decide (8 ≤ c) = true := decide_eq_true h1
      go_enter Try.func96, Try.ntmps96
      go_wp2
      go_ret2
      exact ⟨rfl, rfl⟩
    · have t1 : decide (8 ≤ c) = false := decide_eq_false h1
      by_cases h2 : what % 8 = 0
      · have t2 : ((what : Int) % 8 != 0) = false := by rw [← Bool.not_eq_true, bne_iff_ne]; omega
        have t3 : decide ((416 : Int) ≤ what) = true := decide_eq_true (by omega)
        go_enter Try.func96, Try.ntmps96
        go_wp2
        go_ret2
        exact ⟨rfl, rfl⟩
      · have t2 : ((what : Int) % 8 != 0) = true := by rw [bne_iff_ne]; omega
        go_enter Try.func96, Try.ntmps96
        go_wp2
        go_ret2
        exact ⟨rfl, rfl⟩

theorem get_ok {w : World} {v : Value} {f : Nat → Nat} (h : TxAny w v f) (c what : Nat) (hc : c < 8) (h8 : what % 8 = 0) (hw : what < 416) :
    Calls Try.prog 164 #[v, .int .i64 (c : Int), .int .u64 (what : Int)] w fun e w' => e = .returned (.int .u64 ((f (64 + 416 * c + what) : Nat) : Int)) ∧ Grow w w' := by
  have hw1 := word_ok w c what hc h8 hw
  have hl := load_txany h (64 + 416 * c + what) (by omega)
  generalize 64 + 416 * c + what = o at *
  generalize f o = x at *
  go_enter Try.func164, Try.ntmps164
  go_wp2_with fail
  refine hw1.mono ?_
  rintro e w' ⟨rfl, rfl⟩
  go_wp2_with fail
  refine hl.mono ?_
  rintro e w' ⟨rfl, hg⟩
  go_wp2
  go_ret
  exact ⟨rfl, hg⟩
theorem get_bad (w : World) (v : Value) (c : Int) (what : Nat) (h : ¬ (0 ≤ c ∧ c < 8 ∧ what % 8 = 0 ∧ what < 416)) :
    Calls Try.prog 164 #[v, .int .i64 c, .int .u64 (what : Int)] w fun e w' => e = .returned (.int .u64 0) ∧ Grow w w' := by
  have hw1 := word_bad w c what h
  go_enter Try.func164, Try.ntmps164
  go_wp2_with fail
  refine hw1.mono ?_
  rintro e w' ⟨rfl, rfl⟩
  go_wp2
  go_ret
  exact ⟨rfl, Below.refl _ _⟩
theorem state_ok {w : World} {v : Value} {f : Nat → Nat} (h : TxAny w v f) (c : Nat) (hc : c < 8) :
    Calls Try.prog 101 #[v, .int .i64 (c : Int)] w fun e w' => e = .returned (.int .u64 ((f (64 + 416 * c) : Nat) : Int)) ∧ Grow w w' := by
  have hl := get_ok h c 0 hc rfl (by omega)
  rw [Nat.add_zero] at hl
  generalize f (64 + 416 * c) = x at *
  go_enter Try.func101, Try.ntmps101
  go_wp2_with fail
  refine hl.mono ?_
  rintro e w' ⟨rfl, hg⟩
  go_wp2
  go_ret
  exact ⟨rfl, hg⟩

theorem set_ok {w : World} {base : Nat} {v : Value} {M : Nat → Prop} {σ : St} (h : TxAt w base v M σ) (c what x : Nat) (hc : c < 8) (h8 : what % 8 = 0) (hw : what < 416) (hx : x < 18446744073709551616) (hn : σ.p.length < 1000000) :
    Calls Try.prog 159 #[v, .int .i64 (c : Int), .int .u64 (what : Int), .int .u64 (x : Int)] w fun e w' => e = .returned (.int .i64 0) ∧ ∃ M', TxAt w' base v M' (σ.store (64 + 416 * c + what) x) ∧ Only M w w' ∧ ∀ b, M' b → M b ∨ w.heap.size ≤ b := by
  have hw1 := word_ok w c what hc h8 hw
  have hs := store_call h (64 + 416 * c + what) x (by omega) hx hn
  generalize 64 + 416 * c + what = o at *
  go_enter Try.func159, Try.ntmps159
  go_wp2_with fail
  refine hw1.mono ?_
  rintro e w' ⟨rfl, rfl⟩
  go_wp2_with fail
  refine hs.mono ?_
  rintro e w' ⟨rfl, hM⟩
  have HM := Lib.hid hM
  clear hM hs
  go_wp2
  go_ret
  exact ⟨rfl, HM.out⟩
theorem kill_ok {w : World} {base : Nat} {v : Value} {M : Nat → Prop} {σ : St} (h : TxAt w base v M σ) (c : Nat) (hc : c < 8) (hn : σ.p.length < 1000000) :
    Calls Try.prog 83 #[v, .int .i64 (c : Int)] w fun e w' => e = .returned (.int .i64 0) ∧ ∃ M', TxAt w' base v M' (σ.store (64 + 416 * c) 2) ∧ Only M w w' ∧ ∀ b, M' b → M b ∨ w.heap.size ≤ b := by
  have hs := set_ok h c 0 2 hc rfl (by omega) (by omega) hn
  rw [Nat.add_zero] at hs
  go_enter Try.func83, Try.ntmps83
  go_wp2_with fail
  refine hs.mono ?_
  rintro e w' ⟨rfl, hM⟩
  have HM := Lib.hid hM
  clear hM hs
  go_wp2
  go_ret
  exact ⟨rfl, HM.out⟩
theorem clear_ok {w : World} {base : Nat} {v : Value} {M : Nat → Prop} {σ : St} (h : TxAt w base v M σ) (c : Nat) (hc : c < 8) (hn : σ.p.length < 1000000) :
    Calls Try.prog 84 #[v, .int .i64 (c : Int)] w fun e w' => e = .returned (.int .i64 0) ∧ ∃ M', TxAt w' base v M' (σ.store (64 + 416 * c) 0) ∧ Only M w w' ∧ ∀ b, M' b → M b ∨ w.heap.size ≤ b := by
  have hs := set_ok h c 0 0 hc rfl (by omega) (by omega) hn
  rw [Nat.add_zero] at hs
  go_enter Try.func84, Try.ntmps84
  go_wp2_with fail
  refine hs.mono ?_
  rintro e w' ⟨rfl, hM⟩
  have HM := Lib.hid hM
  clear hM hs
  go_wp2
  go_ret
  exact ⟨rfl, HM.out⟩
end Go.Proofs.Ck

namespace Go.Proofs.Ck
open Go Go.RowKit

/-- May a client take the lock, by the words? -/
def mayB (f : Nat → Nat) (c : Int) : Bool :=
  decide (0 ≤ c ∧ c < 8) && (!decide (1 ≤ f 24 ∧ f 24 ≤ 8) || (decide (((f 24 - 1 : Nat) : Int) ≠ c) && decide (f (64 + 416 * (f 24 - 1)) = 2)))

theorem dead_call {w : World} {v : Value} {f : Nat → Nat} (h : TxAny w v f) {bx : Nat} (hb : w.heap[bx]? = some (.cells #[v] 65 (0, 0))) (c : Nat) (hc : c < 8) :
    Calls Try.prog 158 #[.int .i64 (c : Int), .pointer (some ⟨bx, 0, none⟩)] w fun e w' => e = .returned (.bool (decide (f (64 + 416 * c) = 2))) ∧ Grow w w' := by
  have c0 : w.cell? ⟨bx, 0, none⟩ = some v := by rw [cell_of_heap hb]; rfl
  have hs := state_ok h c hc
  generalize f (64 + 416 * c) = x at *
  by_cases hx : x = 2
  · subst hx
    rw [decide_eq_true rfl]
    go_enter Try.func158, Try.ntmps158
    go_wp2_with fail
    refine hs.mono ?_
    rintro e w' ⟨rfl, hg⟩
    clear hs
    go_wp2
    go_ret
    exact ⟨rfl, hg⟩
  · have t : ((x : Int) == 2) = false := by rw [beq_eq_false_iff_ne]; omega
    rw [decide_eq_false hx]
    go_enter Try.func158, Try.ntmps158
    go_wp2_with fail
    refine hs.mono ?_
    rintro e w' ⟨rfl, hg⟩
    clear hs
    go_wp2
    go_ret
    exact ⟨rfl, hg⟩

theorem TxAny.ptr {w : World} {v : Value} {f : Nat → Nat} (h : TxAny w v f) : ∃ p, v = .pointer p := by
  rcases h with ⟨h, _⟩ | ⟨base, M, σ, ⟨tb, mb, T, sb, bb, cap, cs, h, _⟩, _⟩
  · exact ⟨none, h⟩
  · exact ⟨_, h⟩

set_option maxRecDepth 100000 in
set_option maxHeartbeats 1000000 in
theorem may_call {w : World} {v : Value} {f : Nat → Nat} (h : TxAny w v f) (c : Int) :
    Calls Try.prog 79 #[v, .int .i64 c] w fun e w' => e = .returned (.bool (mayB f c)) ∧ Grow w w' := by
  obtain ⟨p, rfl⟩ := h.ptr
  have hg0 : Grow w (w.alloc (.cells #[.pointer p] 65)) := (Below.refl _ _).alloc (Nat.le_refl _) _
  have hB : (w.alloc (.cells #[.pointer p] 65)).heap[w.heap.size]? = some (.cells #[.pointer p] 65 (0, 0)) := World.alloc_heap_new w _
  have h0 := h.grow hg0
  clear h
  unfold mayB
  by_cases hc : 0 ≤ c ∧ c < 8
  · rw [decide_eq_true hc, Bool.true_and]
    obtain ⟨C, rfl⟩ := Int.eq_ofNat_of_zero_le hc.1
    have hC : C < 8 := by omega
    by_cases hh : 1 ≤ f 24 ∧ f 24 ≤ 8
    · rw [decide_eq_true hh, Bool.not_true, Bool.false_or]
      have hd : ∀ (w2 : World), TxAny w2 (.pointer p) f → w2.heap[w.heap.size]? = some (.cells #[.pointer p] 65 (0, 0)) → Calls Try.prog 158 #[.int .i64 ((f 24 - 1 : Nat) : Int), .pointer (some ⟨w.heap.size, 0, none⟩)] w2 fun e w' => e = .returned (.bool (decide (f (64 + 416 * (f 24 - 1)) = 2))) ∧ Grow w2 w' :=
        fun w2 h2 hb2 => dead_call h2 hb2 (f 24 - 1) (by omega)
      have ho : ∀ (w2 : World), TxAny w2 (.pointer p) f → Calls Try.prog 75 #[.pointer p] w2 fun e w' => e = .returned (.tuple #[.int .i64 ((f 24 - 1 : Nat) : Int), .bool true]) ∧ Grow w2 w' := fun w2 h2 => holder_ok h2 hh.1 hh.2
      generalize decide (f (64 + 416 * (f 24 - 1)) = 2) = D at *
      generalize f 24 - 1 = H at *
      by_cases hne : ((H : Nat) : Int) ≠ (C : Int)
      · rw [decide_eq_true hne, Bool.true_and]
        have t1 : ((H : Int) != C) = true := by rw [bne_iff_ne]; exact hne
        go_enter Try.func79, Try.ntmps79
        go_wp2_with fail
        generalize w.alloc (.cells #[.pointer p] 65) = w1 at *
        refine (take_ok w1 C hC).mono ?_
        rintro e w2 ⟨rfl, hg1⟩
        have hg2 : Grow w2 (w2.alloc (.cells #[.int .u64 24, .int .u64 ((C : Int) + 1)] 73)) := (Below.refl _ _).alloc (Nat.le_refl _) _
        have h2 := (h0.grow hg1).grow hg2
        have hB2 := hg2.heap (hg1.heap hB)
        have hg02 := (hg0.trans hg1).trans hg2
        have b0 : (w2.alloc (.cells #[.int .u64 24, .int .u64 ((C : Int) + 1)] 73)).cell? ⟨w.heap.size, 0, none⟩ = some (.pointer p) := by rw [cell_of_heap hB2]; rfl
        clear h0 hB hg0 hg1 hg2
        go_wp2_with fail
        generalize w2.alloc (.cells #[.int .u64 24, .int .u64 ((C : Int) + 1)] 73) = w3 at h2 hB2 hg02 b0 ⊢
        refine (ho w3 h2).mono ?_
        rintro e w4 ⟨rfl, hg4⟩
        have h4 := h2.grow hg4
        have hB4 := hg4.heap hB2
        have hg04 := hg02.trans hg4
        clear h2 hB2 hg02 hg4 b0
        go_wp2_with fail
        refine (hd w4 h4 hB4).mono ?_
        rintro e w5 ⟨rfl, hg5⟩
        have hg05 := hg04.trans hg5
        clear h4 hB4 hg04 hg5 hd ho
        cases D
        · go_wp2
          go_ret
          exact ⟨rfl, hg05⟩
        · go_wp2
          go_ret
          exact ⟨rfl, hg05⟩
      · have hHC : H = C := by omega
        subst hHC
        rw [decide_eq_false hne, Bool.false_and]
        have t1 : ((H : Int) != H) = false := by simp
        go_enter Try.func79, Try.ntmps79
        go_wp2_with fail
        generalize w.alloc (.cells #[.pointer p] 65) = w1 at *
        refine (take_ok w1 H hC).mono ?_
        rintro e w2 ⟨rfl, hg1⟩
        have hg2 : Grow w2 (w2.alloc (.cells #[.int .u64 24, .int .u64 ((H : Int) + 1)] 73)) := (Below.refl _ _).alloc (Nat.le_refl _) _
        have h2 := (h0.grow hg1).grow hg2
        have hB2 := hg2.heap (hg1.heap hB)
        have hg02 := (hg0.trans hg1).trans hg2
        have b0 : (w2.alloc (.cells #[.int .u64 24, .int .u64 ((H : Int) + 1)] 73)).cell? ⟨w.heap.size, 0, none⟩ = some (.pointer p) := by rw [cell_of_heap hB2]; rfl
        clear h0 hB hg0 hg1 hg2
        go_wp2_with fail
        generalize w2.alloc (.cells #[.int .u64 24, .int .u64 ((H : Int) + 1)] 73) = w3 at h2 hB2 hg02 b0 ⊢
        refine (ho w3 h2).mono ?_
        rintro e w4 ⟨rfl, hg4⟩
        have hg04 := hg02.trans hg4
        clear h2 hB2 hg02 hg4 b0 hd ho
        go_wp2
        go_ret
        exact ⟨rfl, hg04⟩
    · rw [decide_eq_false hh, Bool.not_false, Bool.true_or]
      have ho : ∀ (w2 : World), TxAny w2 (.pointer p) f → Calls Try.prog 75 #[.pointer p] w2 fun e w' => e = .returned (.tuple #[.int .i64 0, .bool false]) ∧ Grow w2 w' := fun w2 h2 => holder_bad h2 hh
      clear hh
      go_enter Try.func79, Try.ntmps79
      go_wp2_with fail
      generalize w.alloc (.cells #[.pointer p] 65) = w1 at *
      refine (take_ok w1 C hC).mono ?_
      rintro e w2 ⟨rfl, hg1⟩
      have hg2 : Grow w2 (w2.alloc (.cells #[.int .u64 24, .int .u64 ((C : Int) + 1)] 73)) := (Below.refl _ _).alloc (Nat.le_refl _) _
      have h2 := (h0.grow hg1).grow hg2
      have hB2 := hg2.heap (hg1.heap hB)
      have hg02 := (hg0.trans hg1).trans hg2
      have b0 : (w2.alloc (.cells #[.int .u64 24, .int .u64 ((C : Int) + 1)] 73)).cell? ⟨w.heap.size, 0, none⟩ = some (.pointer p) := by rw [cell_of_heap hB2]; rfl
      clear h0 hB hg0 hg1 hg2
      go_wp2_with fail
      generalize w2.alloc (.cells #[.int .u64 24, .int .u64 ((C : Int) + 1)] 73) = w3 at h2 hB2 hg02 b0 ⊢
      refine (ho w3 h2).mono ?_
      rintro e w4 ⟨rfl, hg4⟩
      have hg04 := hg02.trans hg4
      clear h2 hB2 hg02 hg4 b0 ho
      go_wp2
      go_ret
      exact ⟨rfl, hg04⟩
  · rw [decide_eq_false hc, Bool.false_and]
    go_enter Try.func79, Try.ntmps79
    go_wp2_with fail
    generalize w.alloc (.cells #[.pointer p] 65) = w1 at *
    refine (take_bad w1 c hc).mono ?_
    rintro e w2 ⟨rfl, hg1⟩
    have hg2 : Grow w2 (w2.alloc (.cells #[.int .u64 0, .int .u64 0] 73)) := (Below.refl _ _).alloc (Nat.le_refl _) _
    have hg02 := (hg0.trans hg1).trans hg2
    clear h0 hB hg0 hg1 hg2
    go_wp2
    go_ret
    exact ⟨rfl, hg02⟩
end Go.Proofs.Ck

namespace Go.Proofs.Ck
open Go Go.RowKit

theorem plook_append (p q : List (Nat × Nat)) (off : Nat) : plook (p ++ q) off = (plook p off).or (plook q off) := by
  induction p with
  | nil => simp [plook]
  | cons r p ih =>
    rw [List.cons_append, plook_cons, plook_cons, ih]
    split <;> simp
theorem plook_map (p : List (Nat × Nat)) (off v o : Nat) : plook (p.map (fun q => if q.1 = off then (off, v) else q)) o = if o = off then (if (plook p off).isSome then some v else none) else plook p o := by
  induction p with
  | nil => simp [plook]
  | cons q p ih =>
    rw [List.map_cons, plook_cons, plook_cons, plook_cons, ih]
    by_cases h1 : q.1 = off
    · by_cases h2 : o = off
      · subst h2; simp [h1]
      · have : off ≠ o := fun e => h2 e.symm
        have h3 : q.1 ≠ o := fun e => h2 (by omega)
        simp [h1, h2, this]
    · by_cases h2 : o = off
      · subst h2
        simp [h1]
      · simp [h1, h2]
theorem plook_pput (p : List (Nat × Nat)) (off v o : Nat) : plook (pput p off v) o = if o = off then some v else plook p o := by
  unfold pput
  by_cases hs : (plook p off).isSome
  · rw [if_pos hs, plook_map, hs]
    simp
  · rw [if_neg hs, plook_append]
    have hn : plook p off = none := by simpa using hs
    by_cases h : o = off
    · subst h
      rw [hn, if_pos rfl, plook_cons]
      simp
    · have : off ≠ o := fun e => h e.symm
      rw [if_neg h, plook_cons, if_neg this]
      simp [plook]
/-- A word may be stored there. -/
def St.has (σ : St) (off : Nat) : Prop := off % 8 = 0 ∧ off / 8 < σ.W.length
theorem load_store {σ : St} {off : Nat} (h : σ.has off) (v o : Nat) : (σ.store off v).load o = if o = off then v else σ.load o := by
  have e : σ.store off v = ⟨σ.W, pput σ.p off v⟩ := by unfold St.store; exact if_pos h
  rw [e]
  unfold St.load
  rw [plook_pput]
  by_cases ho : o = off
  · rw [if_pos ho, if_pos ho]; rfl
  · rw [if_neg ho, if_neg ho]; rfl
theorem has_store {σ : St} {off v o : Nat} : (σ.store off v).has o ↔ σ.has o := by unfold St.has; rw [store_W]

theorem fmt_zero (size i : Nat) (h0 : i ≠ 0) (h1 : i ≠ 1) (h2 : i ≠ 2) (h4 : i ≠ 4) (h5 : i ≠ 5) (h6 : i < 472) (hs : 3824 ≤ size) : (fmtW 600 size).getD i 0 = 0 := by
  unfold fmtW
  rw [List.getD_eq_getElem?_getD]
  rw [List.getElem?_set_ne (by omega), List.getElem?_set_ne (by omega), List.getElem?_set_ne (by omega), List.getElem?_set_ne (by omega), List.getElem?_set_ne (by omega), List.getElem?_set_ne (by omega), List.getElem?_set_ne (by omega), List.getElem?_replicate]
  split <;> rfl
/-- A formatted segment's words that are not its head's nor its heap's are 0. -/
theorem fmt_load (size off : Nat) (hs : 3824 ≤ size) (h : off = 24 ∨ 48 ≤ off) (h6 : off < 3776) : (⟨fmtW 600 size, []⟩ : St).load off = 0 := by
  unfold St.load St.old
  show (none : Option Nat).getD _ = 0
  rw [Option.getD_none]
  split
  · exact fmt_zero size (off / 8) (by omega) (by omega) (by omega) (by omega) (by omega) (by omega) hs
  · rfl
theorem fmt_has (size off : Nat) (h : off % 8 = 0) (h2 : off < 4800) (p : List (Nat × Nat)) : (⟨fmtW 600 size, p⟩ : St).has off := ⟨h, by rw [fmtW_length]; omega⟩
end Go.Proofs.Ck

namespace Go.Proofs.Ck
open Go Go.RowKit

/-- A call that turns blocks of M alone; behind it M' may be turned. -/
structure Next (M M' : Nat → Prop) (w w' : World) : Prop where
  only : Only M w w'
  fresh : ∀ b, M' b → M b ∨ w.heap.size ≤ b

theorem Next.refl (M : Nat → Prop) (w : World) : Next M M w w := ⟨Only.refl _ _, fun _ h => .inl h⟩
theorem Next.of_grow {M : Nat → Prop} {w w' : World} (h : Grow w w') : Next M M w w' := ⟨Only.of_below h, fun _ h => .inl h⟩
theorem Next.trans {M N L : Nat → Prop} {a b c : World} (h : Next M N a b) (k : Next N L b c) : Next M L a c := by
  refine ⟨⟨k.only.os.trans h.only.os, k.only.tape.trans h.only.tape, k.only.output.trans h.only.output, Nat.le_trans h.only.size k.only.size, fun i hi hs => ?_⟩, fun i hi => ?_⟩
  · have hn : ¬ N i := fun hN => by
      rcases h.fresh i hN with h1 | h1
      · exact hs h1
      · omega
    exact (k.only.block i (Nat.lt_of_lt_of_le hi h.only.size) hn).trans (h.only.block i hi hs)
  · rcases k.fresh i hi with h1 | h1
    · exact h.fresh i h1
    · exact .inr (Nat.le_trans h.only.size h1)
theorem Next.trans' {M N S : Nat → Prop} {a b c : World} (h : Next M N a b) (k : Only S b c) {q : Nat} (hq : a.heap.size ≤ q) (hS : ∀ x, S x → x = q := by intro x hx; exact hx) : Next M N a c := by
  refine ⟨⟨k.os.trans h.only.os, k.tape.trans h.only.tape, k.output.trans h.only.output, Nat.le_trans h.only.size k.size, fun i hi hs => ?_⟩, fun i hi => h.fresh i hi⟩
  exact (k.block i (Nat.lt_of_lt_of_le hi h.only.size) (fun hx => by have := hS _ hx; omega)).trans (h.only.block i hi hs)
theorem Next.less {M N : Nat → Prop} {w : World} (h : ∀ b, N b → M b) : Next M N w w := ⟨Only.refl _ _, fun b hb => .inl (h b hb)⟩

/-- A fact that outlives whatever happens to blocks that it does not lean on. -/
def Stable (K : World → (Nat → Prop) → Prop) : Prop := ∀ w w' M M', Next M M' w w' → K w M → K w' M'
theorem Stable.and {K L : World → (Nat → Prop) → Prop} (h : Stable K) (k : Stable L) : Stable fun w M => K w M ∧ L w M :=
  fun w w' M M' hn hk => ⟨h w w' M M' hn hk.1, k w w' M M' hn hk.2⟩
theorem stable_true : Stable fun _ _ => True := fun _ _ _ _ _ _ => trivial
theorem stable_row {A : Option Addr} {n k : Nat} {xs : List Value} : Stable fun w M => Row (fun b => ¬ M b) w A n k xs :=
  fun _ _ _ _ hn hk => hk.past hn.only hn.fresh

/-- A box: where it lies, its cells, its type. -/
abbrev Bx := Nat × Array Value × TypeId

structure Boxes (base low : Nat) (w : World) (M : Nat → Prop) (bx : List Bx) : Prop where
  at_ : ∀ x ∈ bx, w.heap[x.1]? = some (.cells x.2.1 x.2.2 (0, 0)) ∧ ¬ M x.1 ∧ base ≤ x.1 ∧ low ≤ x.1
  nodup : (bx.map (·.1)).Nodup

/-- The blocks that may be turned, the boxes among them. -/
def Loose (M : Nat → Prop) (bx : List Bx) (b : Nat) : Prop := M b ∨ b ∈ bx.map (·.1)

def Ctx (base : Nat) (M0 : Nat → Prop) (w0 w : World) (v : Value) (σ : St) (bx : List Bx) (K : World → (Nat → Prop) → Prop) : Prop :=
  Stable K ∧ ∃ M, TxAt w base v M σ ∧ Next M0 M w0 w ∧ Boxes base w0.heap.size w M bx ∧ K w (Loose M bx)

theorem Boxes.next {base low : Nat} {w w' : World} {M M' : Nat → Prop} {bx : List Bx} (h : Boxes base low w M bx) (hn : Next M M' w w') : Boxes base low w' M' bx := by
  refine ⟨fun x hx => ?_, h.nodup⟩
  obtain ⟨h1, h2, h3, h4⟩ := h.at_ x hx
  refine ⟨hn.only.heap h1 h2, fun hm => ?_, h3, h4⟩
  rcases hn.fresh _ hm with h5 | h5
  · exact h2 h5
  · have := lt_of_heap h1; omega
theorem loose_next {w w' : World} {M M' : Nat → Prop} {bx : List Bx} (hn : Next M M' w w') : Next (Loose M bx) (Loose M' bx) w w' := by
  refine ⟨hn.only.mono fun k _ hk => .inl hk, fun b hb => ?_⟩
  rcases hb with hb | hb
  · rcases hn.fresh b hb with h1 | h1
    · exact .inl (.inl h1)
    · exact .inr h1
  · exact .inl (.inr hb)

section
variable {base : Nat} {M0 : Nat → Prop} {w0 w w' : World} {v : Value} {σ σ' : St} {bx : List Bx} {K L : World → (Nat → Prop) → Prop}

theorem Ctx.grow (h : Ctx base M0 w0 w v σ bx K) (hg : Grow w w') : Ctx base M0 w0 w' v σ bx K := by
  obtain ⟨hK, M, h1, h2, h3, h4⟩ := h
  have hn : Next M M w w' := Next.of_grow hg
  exact ⟨hK, M, h1.grow hg, h2.trans hn, h3.next hn, hK _ _ _ _ (loose_next hn) h4⟩
theorem Ctx.drew (h : Ctx base M0 w0 w v σ bx K) : Ctx base M0 w0 w.drew v σ bx K := h.grow (grow_drew w)
theorem Ctx.tx (h : Ctx base M0 w0 w v σ bx K) : ∃ M, TxAt w base v M σ := by obtain ⟨_, M, h1, _⟩ := h; exact ⟨M, h1⟩
theorem Ctx.any (h : Ctx base M0 w0 w v σ bx K) : TxAny w v σ.load := by obtain ⟨M, h1⟩ := h.tx; exact h1.any
theorem Ctx.ptr (h : Ctx base M0 w0 w v σ bx K) : ∃ p, v = .pointer p := h.any.ptr
theorem Ctx.box (h : Ctx base M0 w0 w v σ bx K) {x : Bx} (hx : x ∈ bx) : w.heap[x.1]? = some (.cells x.2.1 x.2.2 (0, 0)) := by
  obtain ⟨_, M, _, _, h3, _⟩ := h
  exact (h3.at_ x hx).1
theorem Ctx.cell (h : Ctx base M0 w0 w v σ bx K) {q : Nat} {cs : Array Value} {t : TypeId} (hx : (q, cs, t) ∈ bx) (i : Nat) : w.cell? ⟨q, i, none⟩ = cs[i]? := cell_of_heap (h.box hx) (i := i)
theorem Ctx.frozen (h : Ctx base M0 w0 w v σ bx K) {q : Nat} {cs : Array Value} {t : TypeId} (hx : (q, cs, t) ∈ bx) (i : Nat) : w.frozen? ⟨q, i, none⟩ = false := frozen_of_heap (h.box hx) i
theorem Ctx.lt (h : Ctx base M0 w0 w v σ bx K) {q : Nat} {cs : Array Value} {t : TypeId} (hx : (q, cs, t) ∈ bx) : q < w.heap.size := lt_of_heap (h.box hx)
theorem Ctx.size (h : Ctx base M0 w0 w v σ bx K) : w0.heap.size ≤ w.heap.size := by obtain ⟨_, M, _, h2, _⟩ := h; exact h2.only.size
theorem Ctx.know (h : Ctx base M0 w0 w v σ bx K) : ∃ X, K w X := by obtain ⟨_, M, _, _, _, h4⟩ := h; exact ⟨_, h4⟩
theorem Ctx.keep (h : Ctx base M0 w0 w v σ bx K) (hL : Stable L) (hl : ∀ X, (∀ b, X b → (M0 b ∨ w0.heap.size ≤ b)) → K w X → L w X) : Ctx base M0 w0 w v σ bx L := by
  obtain ⟨_, M, h1, h2, h3, h4⟩ := h
  refine ⟨hL, M, h1, h2, h3, hl _ (fun b hb => ?_) h4⟩
  rcases hb with hb | hb
  · exact h2.fresh b hb
  · obtain ⟨x, hx, rfl⟩ := List.mem_map.1 hb
    exact .inr (h3.at_ x hx).2.2.2
theorem Ctx.next (h : Ctx base M0 w0 w v σ bx K) : ∃ M, TxAt w base v M σ ∧ Next M0 M w0 w := by obtain ⟨_, M, h1, h2, _⟩ := h; exact ⟨M, h1, h2⟩
theorem Ctx.done (h : Ctx base (fun _ => False) w0 w v σ bx K) : Grow w0 w := by
  obtain ⟨_, M, _, h2, _⟩ := h
  exact h2.only.below (Nat.le_refl _) (fun k hk => hk.elim)

theorem Ctx.alloc (h : Ctx base M0 w0 w v σ bx K) (cs : Array Value) (t : TypeId) : Ctx base M0 w0 (w.alloc (.cells cs t)) v σ ((w.heap.size, cs, t) :: bx) K := by
  have hg : Grow w (w.alloc (.cells cs t)) := (Below.refl _ _).alloc (Nat.le_refl _) _
  obtain ⟨hK, M, h1, h2, h3, h4⟩ := h
  have hn : Next M M w (w.alloc (.cells cs t)) := Next.of_grow hg
  have hb := h3.next hn
  have hnew := World.alloc_heap_new w (.cells cs t)
  have hbase : base ≤ w.heap.size := by
    obtain ⟨tb, mb, T, sb, bb, cap, cs', rfl, rfl, h5⟩ := h1
    exact Nat.le_trans h5.baseT (Nat.le_of_lt (lt_of_heap h5.tx))
  refine ⟨hK, M, h1.grow hg, h2.trans hn, ⟨fun x hx => ?_, ?_⟩, hK _ _ _ _ ?_ h4⟩
  · rcases List.mem_cons.1 hx with rfl | hx
    · exact ⟨hnew, fun hm => by have := h1.lt _ hm; omega, hbase, h2.only.size⟩
    · exact hb.at_ x hx
  · rw [List.map_cons, List.nodup_cons]
    refine ⟨fun hm => ?_, hb.nodup⟩
    obtain ⟨x, hx, he⟩ := List.mem_map.1 hm
    have := lt_of_heap (h3.at_ x hx).1
    simp only at he
    omega
  · refine ⟨Only.of_below hg, fun b hb => ?_⟩
    rcases hb with hb | hb
    · exact .inl (.inl hb)
    · rw [List.map_cons, List.mem_cons] at hb
      rcases hb with rfl | hb
      · exact .inr (Nat.le_refl _)
      · exact .inl (.inr hb)

/-- A box's cell is written: the first box's. -/
theorem Ctx.set {q : Nat} {cs : Array Value} {t : TypeId} (h : Ctx base M0 w0 w v σ ((q, cs, t) :: bx) K) (i : Nat) (u : Value) : Ctx base M0 w0 (w.setCell ⟨q, i, none⟩ u) v σ ((q, cs.setIfInBounds i u, t) :: bx) K := by
  obtain ⟨hK, M, h1, h2, h3, h4⟩ := h
  obtain ⟨g1, g2, g3, g4⟩ := h3.at_ _ (List.mem_cons_self ..)
  have ho : Only (fun b => b = q) w (w.setCell ⟨q, i, none⟩ u) := Only.setCell (S := fun b => b = q) (p := ⟨q, i, none⟩) (Only.refl _ w) rfl u
  have hnd := h3.nodup
  rw [List.map_cons, List.nodup_cons] at hnd
  refine ⟨hK, M, h1.other ho (fun b hb => ?_), h2.trans' ho g4, ⟨fun x hx => ?_, ?_⟩, hK _ _ _ _ ?_ h4⟩
  · subst hb; exact ⟨g2, g3⟩
  · rcases List.mem_cons.1 hx with rfl | hx
    · exact ⟨heap_setCell_row g1 u, g2, g3, g4⟩
    · obtain ⟨k1, k2, k3, k4⟩ := h3.at_ x (List.mem_cons_of_mem _ hx)
      have hm : x.1 ∈ bx.map (·.1) := List.mem_map_of_mem hx
      exact ⟨ho.heap k1 (fun e => hnd.1 (e ▸ hm)), k2, k3, k4⟩
  · rw [List.map_cons, List.nodup_cons]; exact hnd
  · refine ⟨ho.mono fun k _ hk => .inr (by subst hk; simp), fun b hb => .inl hb⟩

/-- Other boxes, or in another turn. -/
theorem Ctx.take (h : Ctx base M0 w0 w v σ bx K) {bx' : List Bx} (hs : ∀ x ∈ bx', x ∈ bx) (hn : (bx.map (·.1)).Nodup → (bx'.map (·.1)).Nodup) : Ctx base M0 w0 w v σ bx' K := by
  obtain ⟨hK, M, h1, h2, h3, h4⟩ := h
  refine ⟨hK, M, h1, h2, ⟨fun x hx => h3.at_ x (hs x hx), hn h3.nodup⟩, hK _ _ _ _ (Next.less fun b hb => ?_) h4⟩
  rcases hb with hb | hb
  · exact .inl hb
  · obtain ⟨x, hx, rfl⟩ := List.mem_map.1 hb
    exact .inr (List.mem_map_of_mem (hs x hx))
theorem Ctx.drop1 {a : Bx} (h : Ctx base M0 w0 w v σ (a :: bx) K) : Ctx base M0 w0 w v σ bx K :=
  h.take (fun x hx => List.mem_cons_of_mem _ hx) (fun hn => by rw [List.map_cons, List.nodup_cons] at hn; exact hn.2)
theorem Ctx.drop2 {a b : Bx} (h : Ctx base M0 w0 w v σ (a :: b :: bx) K) : Ctx base M0 w0 w v σ (a :: bx) K :=
  h.take (fun x hx => by simp only [List.mem_cons] at hx ⊢; rcases hx with h | h <;> simp [h]) (fun hn => by simp only [List.map_cons, List.nodup_cons, List.mem_cons, not_or] at hn ⊢; exact ⟨hn.1.2, hn.2.2⟩)
theorem Ctx.swap {a b : Bx} (h : Ctx base M0 w0 w v σ (a :: b :: bx) K) : Ctx base M0 w0 w v σ (b :: a :: bx) K :=
  h.take (fun x hx => by simp only [List.mem_cons] at hx ⊢; rcases hx with h | h | h <;> simp [h]) (fun hn => by
    simp only [List.map_cons, List.nodup_cons, List.mem_cons, not_or] at hn ⊢
    exact ⟨⟨fun e => hn.1.1 e.symm, hn.2.1⟩, hn.1.2, hn.2.2⟩)
theorem Ctx.third {a b c : Bx} (h : Ctx base M0 w0 w v σ (a :: b :: c :: bx) K) : Ctx base M0 w0 w v σ (c :: a :: b :: bx) K :=
  h.take (fun x hx => by simp only [List.mem_cons] at hx ⊢; rcases hx with h | h | h | h <;> simp [h]) (fun hn => by
    simp only [List.map_cons, List.nodup_cons, List.mem_cons, not_or] at hn ⊢
    exact ⟨⟨fun e => hn.1.2.1 e.symm, fun e => hn.2.1.1 e.symm, hn.2.2.1⟩, ⟨hn.1.1, hn.1.2.2⟩, hn.2.1.2, hn.2.2.2⟩)
theorem Ctx.bare (h : Ctx base M0 w0 w v σ bx K) : Ctx base M0 w0 w v σ [] K := h.take (fun x hx => by cases hx) (fun _ => List.nodup_nil)

/-- A call that only reads, and makes new blocks. -/
theorem Ctx.read {f : FuncId} {args : Array Value} {R : Ending → World → Prop} (h : Ctx base M0 w0 w v σ bx K) (hc : Calls Try.prog f args w fun e w' => R e w' ∧ Grow w w') :
    Calls Try.prog f args w fun e w' => R e w' ∧ Ctx base M0 w0 w' v σ bx K :=
  hc.mono fun _ _ ⟨h1, h2⟩ => ⟨h1, h.grow h2⟩
/-- A call that turns what is thought of. -/
theorem Ctx.write {f : FuncId} {args : Array Value} {r : Ending} (h : Ctx base M0 w0 w v σ bx K)
    (hc : ∀ M, TxAt w base v M σ → Calls Try.prog f args w fun e w' => e = r ∧ ∃ M', TxAt w' base v M' σ' ∧ Only M w w' ∧ ∀ b, M' b → M b ∨ w.heap.size ≤ b) :
    Calls Try.prog f args w fun e w' => e = r ∧ Ctx base M0 w0 w' v σ' bx K := by
  obtain ⟨hK, M, h1, h2, h3, h4⟩ := h
  refine (hc M h1).mono ?_
  rintro e w' ⟨rfl, M', k1, k2, k3⟩
  have hn : Next M M' w w' := ⟨k2, k3⟩
  exact ⟨rfl, hK, M', k1, h2.trans hn, h3.next hn, hK _ _ _ _ (loose_next hn) h4⟩
end
/-- The pair that a law's own 'formed' hands out. -/
theorem Ctx.of_pair {w0 w : World} {base : Nat} {v rv : Value} {M : Nat → Prop} {σ : St} {K : World → (Nat → Prop) → Prop} (h : Pair w base v rv M σ) (hb : w0.heap.size ≤ base) (hg : Grow w0 w) (hK : Stable K) (hk : K w M) :
    Ctx base (fun _ => False) w0 w v σ [] K := by
  have hbs := h.tx.base
  exact ⟨hK, M, h.tx, ⟨Only.of_below hg, fun b hm => .inr (Nat.le_trans hb (hbs b hm))⟩, ⟨fun x hx => (by cases hx), List.nodup_nil⟩, hK _ _ _ _ (Next.less fun b hb => by
    rcases hb with hb | hb
    · exact hb
    · cases hb) hk⟩
end Go.Proofs.Ck

namespace Go.Proofs.Ck
open Go Go.RowKit

theorem nodup_lt_length : ∀ (n : Nat) (l : List Nat), l.Nodup → (∀ x ∈ l, x < n) → l.length ≤ n
  | 0, [], _, _ => Nat.le_refl _
  | 0, x :: _, _, h => absurd (h x (by simp)) (by omega)
  | n + 1, l, hn, h => by
    have h1 := nodup_lt_length n (l.filter (· != n)) (hn.filter _) (fun x hx => by
      rw [List.mem_filter] at hx
      have := h x hx.1
      have := hx.2
      simp at this
      omega)
    have h2 : (l.filter (· == n)).length ≤ 1 := by
      rw [← List.count_eq_length_filter]
      exact List.nodup_iff_count.1 hn n
    have h3 := List.length_eq_countP_add_countP (l := l) (· == n)
    rw [List.countP_eq_length_filter, List.countP_eq_length_filter] at h3
    have h4 : l.filter (fun x => decide ¬(x == n) = true) = l.filter (· != n) := List.filter_congr fun x _ => by cases h : (x == n) <;> simp [h, bne]
    rw [h4] at h3
    omega

theorem puts_few {w : World} {base : Nat} {v : Value} {M : Nat → Prop} {σ : St} (h : TxAt w base v M σ) : σ.p.length ≤ σ.W.length := by
  obtain ⟨tb, mb, T, sb, bb, cap, cs, rfl, rfl, h⟩ := h
  have hn : ((σ.p.map (·.1)).map (· / 8)).Nodup := by
    rw [List.Nodup, List.pairwise_map]
    refine List.Pairwise.imp_of_mem ?_ h.nodup
    intro a b ha hb hab e
    obtain ⟨p, hp, rfl⟩ := List.mem_map.1 ha
    obtain ⟨q, hq, rfl⟩ := List.mem_map.1 hb
    have h1 := (h.dom p hp).1.1
    have h2 := (h.dom q hq).1.1
    omega
  have := nodup_lt_length σ.W.length _ hn (fun x hx => by
    obtain ⟨y, hy, rfl⟩ := List.mem_map.1 hx
    obtain ⟨q, hq, rfl⟩ := List.mem_map.1 hy
    exact (h.dom q hq).1.2)
  simpa using this

/-- What is loaded, with one word otherwise. -/
def upd (f : Nat → Nat) (a x : Nat) (o : Nat) : Nat := if o = a then x else f o
theorem upd_same (f : Nat → Nat) (a x : Nat) : upd f a x a = x := if_pos rfl
theorem upd_ne {f : Nat → Nat} {a x o : Nat} (h : o ≠ a) : upd f a x o = f o := if_neg h
/-- A word's offset in a segment of 4800 bytes. -/
def inSeg (off : Nat) : Prop := off % 8 = 0 ∧ off < 4800
instance (off : Nat) : Decidable (inSeg off) := inferInstanceAs (Decidable (_ ∧ _))
/-- What is loaded behind a store that may be none. -/
def updS (f : Nat → Nat) (a x : Nat) : Nat → Nat := if inSeg a then upd f a x else f

/-- By what is loaded. -/
def Law (base : Nat) (M0 : Nat → Prop) (w0 w : World) (v : Value) (f : Nat → Nat) (bx : List Bx) (K : World → (Nat → Prop) → Prop) : Prop :=
  ∃ σ, Ctx base M0 w0 w v σ bx K ∧ σ.W.length = 600 ∧ σ.load = f

section
variable {base : Nat} {M0 : Nat → Prop} {w0 w w' : World} {v : Value} {f : Nat → Nat} {bx : List Bx} {K L : World → (Nat → Prop) → Prop}
theorem Law.grow (h : Law base M0 w0 w v f bx K) (hg : Grow w w') : Law base M0 w0 w' v f bx K := by obtain ⟨σ, h1, h2⟩ := h; exact ⟨σ, h1.grow hg, h2⟩
theorem Law.drew (h : Law base M0 w0 w v f bx K) : Law base M0 w0 w.drew v f bx K := h.grow (grow_drew w)
theorem Law.any (h : Law base M0 w0 w v f bx K) : TxAny w v f := by obtain ⟨σ, h1, _, rfl⟩ := h; exact h1.any
theorem Law.ptr (h : Law base M0 w0 w v f bx K) : ∃ p, v = .pointer p := h.any.ptr
theorem Law.lt (h : Law base M0 w0 w v f bx K) (o : Nat) : f o < 18446744073709551616 := h.any.lt o
theorem Law.cell (h : Law base M0 w0 w v f bx K) {q : Nat} {cs : Array Value} {t : TypeId} (hx : (q, cs, t) ∈ bx) (i : Nat) : w.cell? ⟨q, i, none⟩ = cs[i]? := by obtain ⟨σ, h1, _⟩ := h; exact h1.cell hx i
theorem Law.frozen (h : Law base M0 w0 w v f bx K) {q : Nat} {cs : Array Value} {t : TypeId} (hx : (q, cs, t) ∈ bx) (i : Nat) : w.frozen? ⟨q, i, none⟩ = false := by obtain ⟨σ, h1, _⟩ := h; exact h1.frozen hx i
theorem Law.box (h : Law base M0 w0 w v f bx K) {x : Bx} (hx : x ∈ bx) : w.heap[x.1]? = some (.cells x.2.1 x.2.2 (0, 0)) := by obtain ⟨σ, h1, _⟩ := h; exact h1.box hx
theorem Law.size (h : Law base M0 w0 w v f bx K) : w0.heap.size ≤ w.heap.size := by obtain ⟨σ, h1, _⟩ := h; exact h1.size
theorem Law.know (h : Law base M0 w0 w v f bx K) : ∃ X, K w X := by obtain ⟨σ, h1, _⟩ := h; exact h1.know
theorem Law.keep (h : Law base M0 w0 w v f bx K) (hL : Stable L) (hl : ∀ X, (∀ b, X b → (M0 b ∨ w0.heap.size ≤ b)) → K w X → L w X) : Law base M0 w0 w v f bx L := by obtain ⟨σ, h1, h2⟩ := h; exact ⟨σ, h1.keep hL hl, h2⟩
theorem Law.done (h : Law base (fun _ => False) w0 w v f bx K) : Grow w0 w := by obtain ⟨σ, h1, _⟩ := h; exact h1.done
theorem Law.alloc (h : Law base M0 w0 w v f bx K) (cs : Array Value) (t : TypeId) : Law base M0 w0 (w.alloc (.cells cs t)) v f ((w.heap.size, cs, t) :: bx) K := by obtain ⟨σ, h1, h2⟩ := h; exact ⟨σ, h1.alloc cs t, h2⟩
theorem Law.set {q : Nat} {cs : Array Value} {t : TypeId} (h : Law base M0 w0 w v f ((q, cs, t) :: bx) K) (i : Nat) (u : Value) : Law base M0 w0 (w.setCell ⟨q, i, none⟩ u) v f ((q, cs.setIfInBounds i u, t) :: bx) K := by obtain ⟨σ, h1, h2⟩ := h; exact ⟨σ, h1.set i u, h2⟩
theorem Law.drop1 {a : Bx} (h : Law base M0 w0 w v f (a :: bx) K) : Law base M0 w0 w v f bx K := by obtain ⟨σ, h1, h2⟩ := h; exact ⟨σ, h1.drop1, h2⟩
theorem Law.drop2 {a b : Bx} (h : Law base M0 w0 w v f (a :: b :: bx) K) : Law base M0 w0 w v f (a :: bx) K := by obtain ⟨σ, h1, h2⟩ := h; exact ⟨σ, h1.drop2, h2⟩
theorem Law.swap {a b : Bx} (h : Law base M0 w0 w v f (a :: b :: bx) K) : Law base M0 w0 w v f (b :: a :: bx) K := by obtain ⟨σ, h1, h2⟩ := h; exact ⟨σ, h1.swap, h2⟩
theorem Law.third {a b c : Bx} (h : Law base M0 w0 w v f (a :: b :: c :: bx) K) : Law base M0 w0 w v f (c :: a :: b :: bx) K := by obtain ⟨σ, h1, h2⟩ := h; exact ⟨σ, h1.third, h2⟩
theorem Law.bare (h : Law base M0 w0 w v f bx K) : Law base M0 w0 w v f [] K := by obtain ⟨σ, h1, h2⟩ := h; exact ⟨σ, h1.bare, h2⟩
theorem Law.read {g : FuncId} {args : Array Value} {R : Ending → World → Prop} (h : Law base M0 w0 w v f bx K) (hc : Calls Try.prog g args w fun e w' => R e w' ∧ Grow w w') :
    Calls Try.prog g args w fun e w' => R e w' ∧ Law base M0 w0 w' v f bx K :=
  hc.mono fun _ _ ⟨h1, h2⟩ => ⟨h1, h.grow h2⟩

/-- A call that stores one word. -/
theorem Law.write {g : FuncId} {args : Array Value} {r : Ending} {a x : Nat} (h : Law base M0 w0 w v f bx K) (ha : inSeg a)
    (hc : ∀ M σ, TxAt w base v M σ → σ.p.length < 1000000 → Calls Try.prog g args w fun e w' => e = r ∧ ∃ M', TxAt w' base v M' (σ.store a x) ∧ Only M w w' ∧ ∀ b, M' b → M b ∨ w.heap.size ≤ b) :
    Calls Try.prog g args w fun e w' => e = r ∧ Law base M0 w0 w' v (upd f a x) bx K := by
  obtain ⟨σ, h1, h2, rfl⟩ := h
  refine (h1.write fun M hM => hc M σ hM (by have := puts_few hM; omega)).mono ?_
  rintro e w' ⟨rfl, h3⟩
  refine ⟨rfl, _, h3, by rw [store_W]; exact h2, ?_⟩
  funext o
  exact load_store ⟨ha.1, by rw [h2]; have := ha.2; omega⟩ x o
/-- A call that stores one word, if it may be stored. -/
theorem Law.writeS {g : FuncId} {args : Array Value} {r : Ending} {a x : Nat} (h : Law base M0 w0 w v f bx K)
    (hc : ∀ M σ, TxAt w base v M σ → σ.p.length < 1000000 → Calls Try.prog g args w fun e w' => e = r ∧ ∃ M', TxAt w' base v M' (σ.store a x) ∧ Only M w w' ∧ ∀ b, M' b → M b ∨ w.heap.size ≤ b) :
    Calls Try.prog g args w fun e w' => e = r ∧ Law base M0 w0 w' v (updS f a x) bx K := by
  unfold updS
  by_cases ha : inSeg a
  · rw [if_pos ha]; exact h.write ha hc
  · rw [if_neg ha]
    obtain ⟨σ, h1, h2, rfl⟩ := h
    refine (h1.write fun M hM => hc M σ hM (by have := puts_few hM; omega)).mono ?_
    rintro e w' ⟨rfl, h3⟩
    have e1 : σ.store a x = σ := by
      unfold St.store
      rw [if_neg]
      rw [h2]
      unfold inSeg at ha
      omega
    rw [e1] at h3
    exact ⟨rfl, _, h3, h2, rfl⟩

theorem Law.store (h : Law base M0 w0 w v f bx K) (a x : Nat) (ha : inSeg a) (hx : x < 18446744073709551616) :
    Calls Try.prog 82 #[v, .int .u64 (a : Int), .int .u64 (x : Int)] w fun e w' => e = .returned (.tuple #[]) ∧ Law base M0 w0 w' v (upd f a x) bx K :=
  h.write ha fun _ _ hM hn => store_call hM a x (by have := ha.2; omega) hx hn
theorem Law.kill (h : Law base M0 w0 w v f bx K) (c : Nat) (hc : c < 8) :
    Calls Try.prog 83 #[v, .int .i64 (c : Int)] w fun e w' => e = .returned (.int .i64 0) ∧ Law base M0 w0 w' v (upd f (64 + 416 * c) 2) bx K :=
  h.write ⟨by omega, by omega⟩ fun _ _ hM hn => kill_ok hM c hc hn
theorem Law.clear (h : Law base M0 w0 w v f bx K) (c : Nat) (hc : c < 8) :
    Calls Try.prog 84 #[v, .int .i64 (c : Int)] w fun e w' => e = .returned (.int .i64 0) ∧ Law base M0 w0 w' v (upd f (64 + 416 * c) 0) bx K :=
  h.write ⟨by omega, by omega⟩ fun _ _ hM hn => clear_ok hM c hc hn
theorem Law.load (h : Law base M0 w0 w v f bx K) (off : Nat) (ho : off < 18446744073709551616) :
    Calls Try.prog 118 #[v, .int .u64 (off : Int)] w fun e w' => e = .returned (.int .u64 ((f off : Nat) : Int)) ∧ Law base M0 w0 w' v f bx K := h.read (load_txany h.any off ho)
theorem Law.state (h : Law base M0 w0 w v f bx K) (c : Nat) (hc : c < 8) :
    Calls Try.prog 101 #[v, .int .i64 (c : Int)] w fun e w' => e = .returned (.int .u64 ((f (64 + 416 * c) : Nat) : Int)) ∧ Law base M0 w0 w' v f bx K := h.read (state_ok h.any c hc)
theorem Law.may (h : Law base M0 w0 w v f bx K) (c : Int) :
    Calls Try.prog 79 #[v, .int .i64 c] w fun e w' => e = .returned (.bool (mayB f c)) ∧ Law base M0 w0 w' v f bx K := h.read (may_call h.any c)
theorem Law.takeOk (h : Law base M0 w0 w v f bx K) (c : Nat) (hc : c < 8) :
    Calls Try.prog 77 #[.int .i64 (c : Int)] w fun e w' => e = .returned (.tuple #[.agg #[.int .u64 24, .int .u64 ((c + 1 : Nat) : Int)], .int .i64 0]) ∧ Law base M0 w0 w' v f bx K := h.read (take_ok w c hc)
theorem Law.leave (h : Law base M0 w0 w v f bx K) :
    Calls Try.prog 81 #[] w fun e w' => e = .returned (.agg #[.int .u64 24, .int .u64 0]) ∧ Law base M0 w0 w' v f bx K := h.read (Ck.leave w)
end

/-- What is loaded of a formatted segment. -/
def fmtF (size : Nat) : Nat → Nat := (⟨fmtW 600 size, []⟩ : St).load
/-- What is loaded of it, when words of a list are stored. -/
def fillF (size : Nat) (l : List (Nat × Nat)) : Nat → Nat := (fillS ⟨fmtW 600 size, []⟩ l).load
theorem Law.of_pair {w0 w : World} {base : Nat} {v rv : Value} {M : Nat → Prop} {size : Nat} {l : List (Nat × Nat)} {K : World → (Nat → Prop) → Prop} (h : Pair w base v rv M (fillS ⟨fmtW 600 size, []⟩ l)) (hb : w0.heap.size ≤ base) (hg : Grow w0 w) (hK : Stable K) (hk : K w M) :
    Law base (fun _ => False) w0 w v (fillF size l) [] K :=
  ⟨_, Ctx.of_pair h hb hg hK hk, by rw [fillS_W, fmtW_length], rfl⟩
theorem Pair.agg {w : World} {base : Nat} {v rv : Value} {M : Nat → Prop} {σ : St} (h : Pair w base v rv M σ) : ∃ A n c B m d, rv = .agg #[.slice A n c, .slice B m d] := by
  obtain ⟨A, c, B, d, h1, _⟩ := h.ref
  exact ⟨A, _, c, B, _, d, h1⟩

/-- The document's, by what is loaded. -/
def RefF (rv : Value) (f : Nat → Nat) (w : World) (X : Nat → Prop) : Prop :=
  ∃ (σ : St) (A : Option Addr) (c : Nat) (B : Option Addr) (d : Nat), rv = .agg #[.slice A σ.W.length c, .slice B σ.p.length d] ∧ Nums (fun b => ¬ X b) w A σ.W ∧ Puts (fun b => ¬ X b) w B σ.p ∧ (B = none → d = 0) ∧
    σ.W.length = 600 ∧ σ.p.length ≤ 600 ∧ (σ.p.map (·.1)).Nodup ∧ σ.load = f
theorem stable_ref {rv : Value} {f : Nat → Nat} : Stable (RefF rv f) := by
  rintro w w' M M' hn ⟨σ, A, c, B, d, h1, h2, h3, h4⟩
  exact ⟨σ, A, c, B, d, h1, h2.past hn.only hn.fresh, h3.past hn.only hn.fresh, h4⟩
/-- A list of words that came in. -/
def ArgP (A : Option Addr) (l : List (Nat × Nat)) (w : World) (X : Nat → Prop) : Prop := Puts (fun b => ¬ X b) w A l
theorem stable_arg {A : Option Addr} {l : List (Nat × Nat)} : Stable (ArgP A l) := stable_row

/-- What a law's own 'formed' answers, as a law holds it. -/
def Formed (w0 : World) (size : Nat) (A : Option Addr) (l : List (Nat × Nat)) (e : Ending) (w' : World) : Prop :=
  ∃ (base : Nat) (p : Option Addr) (A1 : Option Addr) (n1 c1 : Nat) (B1 : Option Addr) (n2 d1 : Nat),
    e = .returned (.tuple #[.pointer p, .agg #[.slice A1 n1 c1, .slice B1 n2 d1]]) ∧
    Law base (fun _ => False) w0 w' (.pointer p) (fillF size (l.take 60)) [] fun w X => RefF (.agg #[.slice A1 n1 c1, .slice B1 n2 d1]) (fillF size (l.take 60)) w X ∧ ArgP A l w X
theorem formed_law {g : FuncId} {args : Array Value} {w0 w : World} {size : Nat} {A : Option Addr} {l : List (Nat × Nat)} (hg : Grow w0 w) (hl : Puts (fun b => b < w0.heap.size) w0 A l)
    (h : Puts (fun b => b < w.heap.size) w A l → Calls Try.prog g args w fun e w' => ∃ base v rv M, e = .returned (.tuple #[v, rv]) ∧ Pair w' base v rv M (fillS ⟨fmtW 600 size, []⟩ (l.take 60)) ∧ w.heap.size ≤ base ∧ Grow w w') :
    Calls Try.prog g args w (Formed w0 size A l) := by
  have h0 := hl.grow hg
  refine (h (h0.mono fun b _ hb => Nat.lt_of_lt_of_le hb hg.size)).mono ?_
  rintro e w' ⟨base, v, rv, M, rfl, hP, hb, hg2⟩
  have hbb := Nat.le_trans hg.size hb
  have hMb := hP.tx.base
  obtain ⟨A1, c1, B1, d1, hrv, h1, h2, h3⟩ := hP.ref
  obtain ⟨p, rfl⟩ := hP.tx.any.ptr
  subst hrv
  have few := puts_few hP.tx
  have hWl : (fillS ⟨fmtW 600 size, []⟩ (l.take 60)).W.length = 600 := by rw [fillS_W, fmtW_length]
  refine ⟨base, p, A1, _, c1, B1, _, d1, rfl, Law.of_pair hP hbb (hg.trans hg2) (stable_ref.and stable_arg) ⟨⟨_, A1, c1, B1, d1, rfl, h1, h2, h3, hWl, by rw [hWl] at few; exact few, hP.tx.nodup, rfl⟩, ?_⟩⟩
  exact (h0.grow hg2).mono fun b _ hb hm => by have := hMb b hm; omega
end Go.Proofs.Ck

namespace Go.Proofs.Ck
open Go Go.RowKit

/-- Does a word of a record stand there? -/
def inRec (c : Int) (what : Nat) : Prop := 0 ≤ c ∧ c < 8 ∧ what % 8 = 0 ∧ what < 416
/-- A word of a client's record; 0 of nobody. -/
def getF (f : Nat → Nat) (c : Int) (what : Nat) : Nat := if 0 ≤ c ∧ c < 8 then f (64 + 416 * c.toNat + what) else 0
/-- The same, with that word otherwise. -/
def setF (f : Nat → Nat) (c : Int) (what x : Nat) : Nat → Nat := if 0 ≤ c ∧ c < 8 then upd f (64 + 416 * c.toNat + what) x else f

section
variable {base : Nat} {M0 : Nat → Prop} {w0 w w' : World} {v : Value} {f : Nat → Nat} {bx : List Bx} {K : World → (Nat → Prop) → Prop}

theorem get_any (h : TxAny w v f) (c : Int) (what : Nat) (h8 : what % 8 = 0) (hw : what < 416) :
    Calls Try.prog 164 #[v, .int .i64 c, .int .u64 (what : Int)] w fun e w' => e = .returned (.int .u64 ((getF f c what : Nat) : Int)) ∧ Grow w w' := by
  unfold getF
  by_cases hc : 0 ≤ c ∧ c < 8
  · rw [if_pos hc]
    obtain ⟨C, rfl⟩ := Int.eq_ofNat_of_zero_le hc.1
    exact get_ok h C what (by omega) h8 hw
  · rw [if_neg hc]
    exact get_bad w v c what (fun hh => hc ⟨hh.1, hh.2.1⟩)
theorem state_any (h : TxAny w v f) (c : Int) :
    Calls Try.prog 101 #[v, .int .i64 c] w fun e w' => e = .returned (.int .u64 ((getF f c 0 : Nat) : Int)) ∧ Grow w w' := by
  have hl := get_any h c 0 rfl (by omega)
  generalize getF f c 0 = x at *
  go_enter Try.func101, Try.ntmps101
  go_wp2_with fail
  refine hl.mono ?_
  rintro e w' ⟨rfl, hg⟩
  go_wp2
  go_ret
  exact ⟨rfl, hg⟩
theorem head_any (h : TxAny w v f) (c : Int) :
    Calls Try.prog 102 #[v, .int .i64 c] w fun e w' => e = .returned (.int .u64 ((getF f c 8 : Nat) : Int)) ∧ Grow w w' := by
  have hl := get_any h c 8 rfl (by omega)
  generalize getF f c 8 = x at *
  go_enter Try.func102, Try.ntmps102
  go_wp2_with fail
  refine hl.mono ?_
  rintro e w' ⟨rfl, hg⟩
  go_wp2
  go_ret
  exact ⟨rfl, hg⟩
theorem set_bad (w : World) (v : Value) (c : Int) (what x : Nat) (hc : ¬ (0 ≤ c ∧ c < 8)) :
    Calls Try.prog 159 #[v, .int .i64 c, .int .u64 (what : Int), .int .u64 (x : Int)] w fun e w' => e = .returned (.int .i64 1) ∧ Grow w w' := by
  have hw1 := word_bad w c what (fun hh => hc ⟨hh.1, hh.2.1⟩)
  go_enter Try.func159, Try.ntmps159
  go_wp2_with fail
  refine hw1.mono ?_
  rintro e w' ⟨rfl, rfl⟩
  go_wp2
  go_ret
  exact ⟨rfl, Below.refl _ _⟩
theorem set_nil (w : World) (c what x : Nat) (hc : c < 8) (h8 : what % 8 = 0) (hw : what < 416) :
    Calls Try.prog 159 #[.pointer none, .int .i64 (c : Int), .int .u64 (what : Int), .int .u64 (x : Int)] w fun e w' => e = .returned (.int .i64 0) ∧ Grow w w' := by
  have hw1 := word_ok w c what hc h8 hw
  have hs : ∀ off, Calls Try.prog 82 #[.pointer none, .int .u64 off, .int .u64 (x : Int)] w fun e w' => e = .returned (.tuple #[]) ∧ w = w' := fun off => by
    go_enter Try.func82, Try.ntmps82
    go_wp2
    (try simp only [Exit.inBlock, Exit.then])
    refine bodyPost_ret (results_none rfl _ _ _) rfl ?_
    exact ⟨rfl, rfl⟩
  generalize 64 + 416 * c + what = o at *
  go_enter Try.func159, Try.ntmps159
  go_wp2_with fail
  refine hw1.mono ?_
  rintro e w' ⟨rfl, rfl⟩
  go_wp2_with fail
  refine (hs _).mono ?_
  rintro e w' ⟨rfl, rfl⟩
  go_wp2
  go_ret
  exact ⟨rfl, Below.refl _ _⟩

/-- What setting tells. -/
def setE (c : Int) : Nat := if 0 ≤ c ∧ c < 8 then 0 else 1
theorem Law.setw (h : Law base M0 w0 w v f bx K) (c : Int) (what x : Nat) (h8 : what % 8 = 0) (hw : what < 416) (hx : x < 18446744073709551616) :
    Calls Try.prog 159 #[v, .int .i64 c, .int .u64 (what : Int), .int .u64 (x : Int)] w fun e w' => e = .returned (.int .i64 ((setE c : Nat) : Int)) ∧ Law base M0 w0 w' v (setF f c what x) bx K := by
  unfold setE setF
  by_cases hc : 0 ≤ c ∧ c < 8
  · rw [if_pos hc, if_pos hc]
    obtain ⟨C, rfl⟩ := Int.eq_ofNat_of_zero_le hc.1
    exact h.write (r := .returned (.int .i64 0)) ⟨by omega, by omega⟩ fun _ _ hM hn => set_ok hM C what x (by omega) h8 hw hx hn
  · rw [if_neg hc, if_neg hc]
    exact h.read (set_bad w v c what x hc)
theorem Law.point (h : Law base M0 w0 w v f bx K) (c : Int) (x : Nat) (hx : x < 18446744073709551616) :
    Calls Try.prog 104 #[v, .int .i64 c, .int .u64 (x : Int)] w fun e w' => e = .returned (.tuple #[]) ∧ Law base M0 w0 w' v (setF f c 8 x) bx K := by
  have hs := h.setw c 8 x rfl (by omega) hx
  generalize setF f c 8 x = g at *
  generalize setE c = E at *
  go_enter Try.func104, Try.ntmps104
  go_wp2_with fail
  refine hs.mono ?_
  rintro e w1 ⟨rfl, L1⟩
  clear hs h
  go_wp2
  go_end0
  exact ⟨rfl, L1⟩
theorem Law.killA (h : Law base M0 w0 w v f bx K) (c : Int) :
    Calls Try.prog 83 #[v, .int .i64 c] w fun e w' => e = .returned (.int .i64 ((setE c : Nat) : Int)) ∧ Law base M0 w0 w' v (setF f c 0 2) bx K := by
  have hs := h.setw c 0 2 rfl (by omega) (by omega)
  generalize setF f c 0 2 = g at *
  generalize setE c = E at *
  go_enter Try.func83, Try.ntmps83
  go_wp2_with fail
  refine hs.mono ?_
  rintro e w1 ⟨rfl, L1⟩
  clear hs h
  go_wp2
  go_ret
  exact ⟨rfl, L1⟩
theorem Law.clearA (h : Law base M0 w0 w v f bx K) (c : Int) :
    Calls Try.prog 84 #[v, .int .i64 c] w fun e w' => e = .returned (.int .i64 ((setE c : Nat) : Int)) ∧ Law base M0 w0 w' v (setF f c 0 0) bx K := by
  have hs := h.setw c 0 0 rfl (by omega) (by omega)
  generalize setF f c 0 0 = g at *
  generalize setE c = E at *
  go_enter Try.func84, Try.ntmps84
  go_wp2_with fail
  refine hs.mono ?_
  rintro e w1 ⟨rfl, L1⟩
  clear hs h
  go_wp2
  go_ret
  exact ⟨rfl, L1⟩

/-- What coming tells, and leaves. -/
def attE (f : Nat → Nat) (c : Int) : Nat := if getF f c 0 = 0 then setE c else if getF f c 0 = 1 then 7 else 13
def attF (f : Nat → Nat) (c : Int) : Nat → Nat := if getF f c 0 = 0 then setF f c 0 1 else f
theorem Law.attach (h : Law base M0 w0 w v f bx K) (c : Int) :
    Calls Try.prog 99 #[v, .int .i64 c] w fun e w' => e = .returned (.int .i64 ((attE f c : Nat) : Int)) ∧ Law base M0 w0 w' v (attF f c) bx K := by
  have hst := h.read (state_any h.any c)
  unfold attE attF
  generalize hx : getF f c 0 = x at *
  by_cases h0 : x = 0
  · rw [if_pos h0, if_pos h0]
    clear hx
    subst h0
    have hs : ∀ w1, Law base M0 w0 w1 v f bx K → _ := fun w1 (L1 : Law base M0 w0 w1 v f bx K) => L1.setw c 0 1 rfl (by omega) (by omega)
    generalize setF f c 0 1 = g at *
    generalize setE c = E at *
    go_enter Try.func99, Try.ntmps99
    go_wp2_with fail
    refine hst.mono ?_
    rintro e w1 ⟨rfl, L1⟩
    clear h hst
    go_wp2_with fail
    refine (hs _ L1).mono ?_
    rintro e w2 ⟨rfl, L2⟩
    clear hs
    go_wp2
    go_ret
    exact ⟨rfl, L2⟩
  · rw [if_neg h0, if_neg h0]
    have t0 : ((x : Int) == 0) = false := by rw [beq_eq_false_iff_ne]; omega
    by_cases h1 : x = 1
    · rw [if_pos h1]
      clear hx t0
      subst h1
      go_enter Try.func99, Try.ntmps99
      go_wp2_with fail
      refine hst.mono ?_
      rintro e w1 ⟨rfl, L1⟩
      clear h hst
      go_wp2
      go_ret
      exact ⟨rfl, L1⟩
    · rw [if_neg h1]
      have t1 : ((x : Int) == 1) = false := by rw [beq_eq_false_iff_ne]; omega
      clear hx
      go_enter Try.func99, Try.ntmps99
      go_wp2_with fail
      refine hst.mono ?_
      rintro e w1 ⟨rfl, L1⟩
      clear h hst
      go_wp2
      go_ret
      exact ⟨rfl, L1⟩

/-- What going tells, and leaves. -/
def detE (f : Nat → Nat) (c : Int) : Nat := if 0 ≤ c ∧ c < 8 then (if getF f c 0 ≠ 1 then 10 else if getF f c 8 ≠ 0 then 11 else 0) else 1
def detF (f : Nat → Nat) (c : Int) : Nat → Nat := if 0 ≤ c ∧ c < 8 ∧ getF f c 0 = 1 ∧ getF f c 8 = 0 then setF f c 0 0 else f
theorem detach_bad (w : World) (v : Value) (c : Int) (hc : ¬ (0 ≤ c ∧ c < 8)) : Calls Try.prog 106 #[v, .int .i64 c] w fun e w' => e = .returned (.int .i64 1) ∧ Grow w w' := by
  have hw1 := word_bad w c 0 (fun hh => hc ⟨hh.1, hh.2.1⟩)
  go_enter Try.func106, Try.ntmps106
  go_wp2_with fail
  refine hw1.mono ?_
  rintro e w' ⟨rfl, rfl⟩
  go_wp2
  go_ret
  exact ⟨rfl, Below.refl _ _⟩
theorem Law.detach (h : Law base M0 w0 w v f bx K) (c : Int) :
    Calls Try.prog 106 #[v, .int .i64 c] w fun e w' => e = .returned (.int .i64 ((detE f c : Nat) : Int)) ∧ Law base M0 w0 w' v (detF f c) bx K := by
  unfold detE detF
  by_cases hc : 0 ≤ c ∧ c < 8
  · rw [if_pos hc]
    obtain ⟨C, rfl⟩ := Int.eq_ofNat_of_zero_le hc.1
    have hw1 := word_ok w C 0 (by omega) rfl (by omega)
    have hst := h.read (state_any h.any (C : Int))
    have hhd : ∀ w1, Law base M0 w0 w1 v f bx K → _ := fun w1 (L1 : Law base M0 w0 w1 v f bx K) => L1.read (head_any L1.any (C : Int))
    have hcl : ∀ w1, Law base M0 w0 w1 v f bx K → _ := fun w1 (L1 : Law base M0 w0 w1 v f bx K) => L1.clearA (C : Int)
    rw [show setE (C : Int) = 0 from if_pos hc] at hcl
    generalize setF f (C : Int) 0 0 = g at *
    generalize getF f (C : Int) 8 = y at *
    generalize getF f (C : Int) 0 = x at *
    generalize 64 + 416 * C + 0 = o at *
    by_cases h1 : x = 1
    · subst h1
      rw [if_neg (by omega)]
      by_cases h2 : y = 0
      · subst h2
        rw [if_neg (by omega), if_pos ⟨hc.1, hc.2, rfl, rfl⟩]
        clear hc
        go_enter Try.func106, Try.ntmps106
        go_wp2_with fail
        refine hw1.mono ?_
        rintro e w' ⟨rfl, rfl⟩
        go_wp2_with fail
        refine hst.mono ?_
        rintro e w1 ⟨rfl, L1⟩
        clear h hst
        go_wp2_with fail
        refine (hhd _ L1).mono ?_
        rintro e w2 ⟨rfl, L2⟩
        clear L1 hhd
        go_wp2_with fail
        refine (hcl _ L2).mono ?_
        rintro e w3 ⟨rfl, L3⟩
        clear L2 hcl
        go_wp2
        go_ret
        exact ⟨rfl, L3⟩
      · rw [if_pos h2, if_neg (fun hh => h2 hh.2.2.2)]
        have t0 : ((y : Int) != 0) = true := by rw [bne_iff_ne]; omega
        clear hc
        go_enter Try.func106, Try.ntmps106
        go_wp2_with fail
        refine hw1.mono ?_
        rintro e w' ⟨rfl, rfl⟩
        go_wp2_with fail
        refine hst.mono ?_
        rintro e w1 ⟨rfl, L1⟩
        clear h hst
        go_wp2_with fail
        refine (hhd _ L1).mono ?_
        rintro e w2 ⟨rfl, L2⟩
        clear L1 hhd hcl
        go_wp2
        go_ret
        exact ⟨rfl, L2⟩
    · rw [if_pos h1, if_neg (fun hh => h1 hh.2.2.1)]
      have t0 : ((x : Int) != 1) = true := by rw [bne_iff_ne]; omega
      clear hc
      go_enter Try.func106, Try.ntmps106
      go_wp2_with fail
      refine hw1.mono ?_
      rintro e w' ⟨rfl, rfl⟩
      go_wp2_with fail
      refine hst.mono ?_
      rintro e w1 ⟨rfl, L1⟩
      clear h hst hhd hcl
      go_wp2
      go_ret
      exact ⟨rfl, L1⟩
  · rw [if_neg hc, if_neg (fun hh => hc ⟨hh.1, hh.2.1⟩)]
    exact h.read (detach_bad w v c hc)
end
end Go.Proofs.Ck
