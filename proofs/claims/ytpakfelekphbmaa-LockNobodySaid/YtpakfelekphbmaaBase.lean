/- Words on worlds, and the rule for a range over a function, in a plain form: no program is named here. -/
import Derived.WalkKit
import Derived.WalkSpells
import Derived.WalkLawsBesides
import Derived.RangeFuncBox
import Derived.RangeFuncLeaves
import Derived.OwnWalkIn
import Derived.TacticsInMore
import Derived.LoopNIn
import Derived.LoopIn
namespace Go.Proofs.Ck
open Go Go.RowKit

/-- Blocks outside S are as they were. -/
structure Only (S : Nat → Prop) (w w' : World) : Prop where
  os : w'.os = w.os
  tape : w'.tape = w.tape
  output : w'.output = w.output
  size : w.heap.size ≤ w'.heap.size
  block : ∀ k, k < w.heap.size → ¬ S k → w'.heap[k]? = w.heap[k]?

theorem Only.refl (S : Nat → Prop) (w : World) : Only S w w := ⟨rfl, rfl, rfl, Nat.le_refl _, fun _ _ _ => rfl⟩
theorem Only.trans {S : Nat → Prop} {a b c : World} (h : Only S a b) (k : Only S b c) : Only S a c :=
  ⟨k.os.trans h.os, k.tape.trans h.tape, k.output.trans h.output, Nat.le_trans h.size k.size, fun i hi hs => (k.block i (Nat.lt_of_lt_of_le hi h.size) hs).trans (h.block i hi hs)⟩
theorem Only.mono {S S' : Nat → Prop} {a b : World} (h : Only S a b) (hs : ∀ k, k < a.heap.size → S k → S' k) : Only S' a b :=
  ⟨h.os, h.tape, h.output, h.size, fun i hi hn => h.block i hi (fun x => hn (hs i hi x))⟩
theorem Only.of_below {S : Nat → Prop} {a b : World} (h : Below a.heap.size a b) : Only S a b :=
  ⟨h.os, h.tape, h.output, h.size, fun i hi _ => h.block i hi⟩
theorem Only.below {S : Nat → Prop} {a b : World} {n : Nat} (h : Only S a b) (hn : n ≤ a.heap.size) (hs : ∀ k, S k → n ≤ k) : Below n a b :=
  ⟨h.os, h.tape, h.output, h.size, fun i hi => h.block i (by omega) (fun x => by have := hs i x; omega)⟩
theorem Only.drew {S : Nat → Prop} {a b : World} (h : Only S a b) : Only S a b.drew := ⟨h.os, h.tape, h.output, h.size, h.block⟩
theorem Only.alloc {S : Nat → Prop} {a b : World} (h : Only S a b) (o : Obj) : Only S a (b.alloc o) :=
  h.trans ⟨rfl, rfl, rfl, by simp, fun k hk _ => Below.heap_alloc _ _ _ hk⟩
theorem Only.setCell {S : Nat → Prop} {a b : World} (h : Only S a b) {p : Addr} (hp : S p.block) (u : Value) : Only S a (b.setCell p u) :=
  h.trans ⟨rfl, rfl, rfl, by simp [World.setCell], fun k _ hs => Below.heap_setCell _ _ _ _ (fun e => hs (e ▸ hp))⟩

/-- Everything that was there is as it was. -/
abbrev Grow (w w' : World) : Prop := Below w.heap.size w w'

theorem Grow.trans {a b c : World} (h : Grow a b) (k : Grow b c) : Grow a c := Below.trans h (Below.mono k h.size)
theorem Grow.heap {a b : World} (h : Grow a b) {k : Nat} {o : Obj} (hk : a.heap[k]? = some o) : b.heap[k]? = some o :=
  (h.block k (Array.getElem?_eq_some_iff.1 hk).1).trans hk
theorem grow_drew (w : World) : Grow w w.drew := (Below.refl _ w).drew
theorem lt_of_heap {w : World} {k : Nat} {o : Obj} (h : w.heap[k]? = some o) : k < w.heap.size := (Array.getElem?_eq_some_iff.1 h).1
theorem Only.heap {S : Nat → Prop} {a b : World} (h : Only S a b) {k : Nat} {o : Obj} (hk : a.heap[k]? = some o) (hs : ¬ S k) : b.heap[k]? = some o :=
  (h.block k (lt_of_heap hk) hs).trans hk

/-- A turn that a loop over a function minds nothing of: new blocks, and blocks from n on that hold no cells. -/
structure Mild (n : Nat) (A B : World) : Prop where
  os : B.os = A.os
  tape : B.tape = A.tape
  output : B.output = A.output
  size : A.heap.size ≤ B.heap.size
  low : ∀ k, k < n → k < A.heap.size → B.heap[k]? = A.heap[k]?
  cells : ∀ (k : Nat) (o : Obj), A.heap[k]? = some o → o.isCells = true → B.heap[k]? = some o

theorem Mild.of_grow {n : Nat} {A B : World} (h : Grow A B) : Mild n A B := ⟨h.os, h.tape, h.output, h.size, fun k _ hk => h.block k hk, fun _ _ hk _ => h.heap hk⟩
theorem Mild.putObj {n : Nat} {A : World} {l : Nat} {o : Obj} (o' : Obj) (hl : n ≤ l) (ho : A.heap[l]? = some o) (hc : o.isCells = false) : Mild n A (A.putObj l o') :=
  ⟨rfl, rfl, rfl, by simp, fun k hk _ => World.putObj_heap_other (by omega), fun k o2 hk h2 => by
    by_cases e : k = l
    · subst e; rw [ho] at hk; cases hk; rw [hc] at h2; cases h2
    · exact (World.putObj_heap_other e).trans hk⟩
theorem Mild.heap {n : Nat} {A B : World} (h : Mild n A B) {k : Nat} {c : Array Value} {t : TypeId} {f : Nat × Nat} (hk : A.heap[k]? = some (.cells c t f)) : B.heap[k]? = some (.cells c t f) := h.cells _ _ hk rfl
theorem Mild.cell {n : Nat} {A B : World} (h : Mild n A B) {a : Addr} {v : Value} (hk : A.cell? a = some v) : B.cell? a = some v := by
  obtain ⟨o, ho, hc⟩ := cells_of_cell hk
  exact (World.cell?_of_block ((h.cells _ _ ho hc).trans ho.symm)).trans hk
theorem Mild.frozen {n : Nat} {A B : World} (h : Mild n A B) {a : Addr} {v : Value} (hk : A.cell? a = some v) : B.frozen? a = A.frozen? a := by
  obtain ⟨o, ho, hc⟩ := cells_of_cell hk
  exact World.frozen?_of_block ((h.cells _ _ ho hc).trans ho.symm)
theorem Mild.below {n m : Nat} {w A B : World} (h : Mild n A B) (hw : Below m w A) (hm : m ≤ n) (hs : m ≤ A.heap.size) : Below m w B :=
  hw.trans ⟨h.os, h.tape, h.output, h.size, fun k hk => h.low k (by omega) (by omega)⟩
theorem Mild.only {n : Nat} {S : Nat → Prop} {w A B : World} (h : Mild n A B) (hw : Only S w A) (hn : w.heap.size ≤ n) : Only S w B :=
  ⟨h.os.trans hw.os, h.tape.trans hw.tape, h.output.trans hw.output, Nat.le_trans hw.size h.size, fun k hk hs => (h.low k (by omega) (Nat.lt_of_lt_of_le hk hw.size)).trans (hw.block k hk hs)⟩

/-- What the body of a round may do: T's blocks stay, and all that holds no cells. -/
structure Held (T : Nat → Prop) (A B : World) : Prop where
  size : A.heap.size ≤ B.heap.size
  same : ∀ k, T k → B.heap[k]? = A.heap[k]?
  others : ∀ (k : Nat) (o : Obj), A.heap[k]? = some o → o.isCells = false → B.heap[k]? = some o

theorem Held.refl (T : Nat → Prop) (A : World) : Held T A A := ⟨Nat.le_refl _, fun _ _ => rfl, fun _ _ h _ => h⟩
theorem Held.trans {T : Nat → Prop} {A B C : World} (h : Held T A B) (k : Held T B C) : Held T A C :=
  ⟨Nat.le_trans h.size k.size, fun i hi => (k.same i hi).trans (h.same i hi), fun i o hi ho => k.others i o (h.others i o hi ho) ho⟩
theorem Held.drew {T : Nat → Prop} {A B : World} (h : Held T A B) : Held T A B.drew := ⟨h.size, h.same, h.others⟩
theorem Held.of_grow {T : Nat → Prop} {A B : World} (h : Grow A B) (hT : ∀ k, T k → k < A.heap.size) : Held T A B :=
  ⟨h.size, fun k hk => h.block k (hT k hk), fun _ _ hk _ => h.heap hk⟩
theorem Held.setCell {T : Nat → Prop} {A B : World} (h : Held T A B) {p : Addr} (hp : ¬ T p.block) (v : Value) : Held T A (B.setCell p v) :=
  h.trans ⟨by simp [World.setCell], fun k hk => Below.heap_setCell _ _ _ _ (fun e => hp (e ▸ hk)), (KeepsOthers.setCell B p v).same⟩
theorem Held.of_grown {T : Nat → Prop} {A B : World} {row : Option Nat} (hg : A.grownBy B row) (hT : ∀ k, T k → k < A.heap.size) (hn : ∀ k, row = some k → ¬ T k)
    (hrow : ∀ (j : Nat) (o : Obj), row = some j → A.heap[j]? = some o → o.isCells = true) : Held T A B :=
  ⟨hg.size, fun k hk => hg.block k (hT k hk) (fun e => hn k e.symm hk), (KeepsOthers.of_grownBy hg hrow).same⟩

/-- AN ITERATOR THAT HANDS OUT encs 0, .., encs (k - 1), as long as T's blocks are as they are in W0. -/
def Iter (P : Program) (g : Nat) (lb : Array Value) (k : Nat) (encs : Nat → Array Value) (T : Nat → Prop) (W0 : World) : Prop :=
  ∀ (l : Nat) (J Jx : Nat → World → Prop) (W : World), W0.heap.size ≤ W.heap.size → (∀ b, T b → W.heap[b]? = W0.heap[b]?) →
    (∀ i A B, J i A → Grow A B → J i B) →
    (∀ i W1, i < k → J i W1 → YieldAt Fence.wide 0 P l (encs i) W1 fun e W' => W1.heap.size ≤ W'.heap.size ∧ (∀ b, T b → W'.heap[b]? = W1.heap[b]?) ∧
      ((e = .returned (.bool true) ∧ J (i + 1) W') ∨ (e = .returned (.bool false) ∧ Jx i W'))) →
    (∀ i A B, Jx i A → Grow A B → Jx i B) →
    J 0 W →
    CallsIn Fence.wide 0 P g (#[.func (.yield l) #[] #[]] ++ lb) W fun e W' => (∃ v, e = .returned v) ∧ (J k W' ∨ ∃ i, i < k ∧ Jx i W')

/-- How the body of a round may be left. -/
def roundEnd (T : Nat → Prop) (I : Nat → World → Prop) (Ix : Code → Nat → World → Prop) (i : Nat) (W : World) : Exit → Act → World → Prop
  | .normal, _, W' => Held T W W' ∧ I (i + 1) W'
  | .ret, _, W' => Held T W W' ∧ Ix .ret i W'
  | .exit id, _, W' => Held T W W' ∧ Ix (.exit id) i W'
  | .goto t, _, W' => Held T W W' ∧ Ix (.goto t) i W'
  | .panic _, _, _ => False
  | .outgrown, _, _ => False

/-- THE RULE FOR 'for .. := range g { body }'. -/
theorem wp_range {P : Program} {g : Operand} {ps : Array Tmp} {assign body : Code} {Q : Exit → Act → World → Prop} {a : Act} {w : World}
    {gf : Nat} {lb : Array Value} (hg : a.eval g = .func (.func gf) #[] lb) (eg : ∀ args w, (callFunc gf args).run P w = .ok (.enter gf args) w)
    {k : Nat} {encs : Nat → Array Value} {T : Nat → Prop} (hit : Iter P gf lb k encs T w) (hT : ∀ b, T b → b < w.heap.size) (hps : ∀ i, (encs i).size = ps.size)
    (I : Nat → World → Prop) (Ix : Code → Nat → World → Prop)
    (hI : ∀ i A B, I i A → Mild w.heap.size A B → I i B) (hIx : ∀ c i A B, Ix c i A → Mild w.heap.size A B → Ix c i B) (h0 : I 0 w) (a₁ : Nat → Act)
    (hassign : ∀ (l i : Nat) (W : World) (K : Act → World → Prop), K (a₁ i) W →
      assign.wpIn (Fence.wide.inRound l) 0 P (Exit.then K (fun _ _ _ => False)) { tmps := (ps.zip (encs i)).foldl (fun t (p, v) => t.setIfInBounds p v) a.tmps, defers := [] } W)
    (hbody : ∀ (l i : Nat) (W : World), i < k → I i W → body.wpIn (Fence.wide.inRound l) 0 P (roundEnd T I Ix i W) (a₁ i) W)
    (hdone : ∀ (D : Nat) (W : World), w.heap.size ≤ D → I k W → W.heap[D]? = some (.deferred (some [])) → Q .normal { a with defers := { target := .collected D, args := #[] } :: a.defers } W)
    (hstop : ∀ (D : Nat) (c : Code) (i : Nat) (W : World), w.heap.size ≤ D → i < k → Ix c i W → W.heap[D]? = some (.deferred (some [])) → c.wpIn Fence.wide 0 P Q { a with defers := { target := .collected D, args := #[] } :: a.defers } W) :
    (Code.rangeFunc g ps assign body).wpIn Fence.wide 0 P Q a w := by
  refine wpIn_rangeFunc ?_
  intro fn hfn
  obtain ⟨rec, hrec⟩ : ∃ rec : LoopState → Option Code → Loop, rec = fun st pe => { state := st, pending := pe, fn, tmps := a.tmps, params := ps, assign, body, defers := w.heap.size } := ⟨_, rfl⟩
  obtain ⟨W1, hW1⟩ : ∃ W1, (w.alloc (.deferred (some []))).alloc (.loop (rec .ready none)) = W1 := ⟨_, rfl⟩
  have hL1 : W1.heap[w.heap.size + 1]? = some (.loop (rec .ready none)) := by
    rw [← hW1]; have := World.alloc_heap_new (w.alloc (.deferred (some []))) (.loop (rec .ready none)); rwa [World.size_alloc] at this
  have hK1 : W1.heap[w.heap.size]? = some (.deferred (some [])) := by
    rw [← hW1]; exact (Below.heap_alloc _ _ _ (by simp)).trans (World.alloc_heap_new w _)
  have hb1 : Grow w W1 := by
    rw [← hW1]; exact ((Below.refl _ w).alloc (Nat.le_refl _) _).alloc (by simp) _
  have hI1 : I 0 W1 := hI _ _ _ h0 (Mild.of_grow hb1)
  refine ⟨w.heap.size + 1, [{ target := .collected w.heap.size, args := #[] }], W1, { target := .fn (.func gf) lb, args := #[.func (.yield (w.heap.size + 1)) #[] #[]] }, W1, gf,
    #[.func (.yield (w.heap.size + 1)) #[] #[]] ++ lb, W1, ?_, ?_, ?_, ?_, fun h => by simp [Fence.wide] at h, ?_⟩
  · rw [← hW1, hrec]; exact run_enterLoop_outer _ _ _ _ _
  · simp only [resolve, hg]
    simp [go_sem]
  · intro f' _; trivial
  · simp [invoke, go_sem, eg]
  · refine (hit (w.heap.size + 1)
      (fun i W => I i W ∧ W.heap[w.heap.size + 1]? = some (.loop (rec .ready none)) ∧ W.heap[w.heap.size]? = some (.deferred (some [])))
      (fun i W => ∃ c, Ix c i W ∧ W.heap[w.heap.size + 1]? = some (.loop (rec .done (some c))) ∧ W.heap[w.heap.size]? = some (.deferred (some [])))
      W1 hb1.size (fun b hb => hb1.block b (hT b hb))
      (fun i A B hs hg' => ⟨hI _ _ _ hs.1 (Mild.of_grow hg'), hg'.heap hs.2.1, hg'.heap hs.2.2⟩)
      ?_
      (fun i A B hs hg' => by
        obtain ⟨c, hc, hl, hk⟩ := hs
        exact ⟨c, hIx _ _ _ _ hc (Mild.of_grow hg'), hg'.heap hl, hg'.heap hk⟩)
      ⟨hI1, hL1, hK1⟩).mono ?_
    · rintro i W hik ⟨hi, hl, hk⟩
      have hlt : w.heap.size + 1 < W.heap.size := lt_of_heap hl
      have hy := run_yield (P := P) (args := encs i) hl (by rw [hrec]; exact hps i)
      rw [hrec] at hy
      refine ⟨fn, _, assign, body, hy, roundIn_of_wpIn hfn (hassign _ i W _ ⟨_, run_beginRound hl (by rw [hrec]), ?_⟩)⟩
      have hl2 : (W.putObj (w.heap.size + 1) (.loop { rec .ready none with state := .busy })).heap[w.heap.size + 1]? = some (.loop { rec .ready none with state := .busy }) := World.putObj_heap_same hlt
      have hk2 : (W.putObj (w.heap.size + 1) (.loop { rec .ready none with state := .busy })).heap[w.heap.size]? = some (.deferred (some [])) := (World.putObj_heap_other (by omega)).trans hk
      refine wpIn_mono (hbody _ i _ hik (hI _ _ _ hi (Mild.putObj _ (by omega) hl rfl))) ?_
      have fin : ∀ (jump : Option Code) (W3 : World), Held T (W.putObj (w.heap.size + 1) (.loop { rec .ready none with state := .busy })) W3 →
          (Instr.endRound (w.heap.size + 1) jump).run P W3 = .ok (.bool jump.isNone) (W3.putObj (w.heap.size + 1) (.loop (rec (if jump.isNone then .ready else .done) jump))) ∧
          W3.heap[w.heap.size + 1]? = some (.loop { rec .ready none with state := .busy }) ∧
          (W3.putObj (w.heap.size + 1) (.loop (rec (if jump.isNone then .ready else .done) jump))).heap[w.heap.size + 1]? = some (.loop (rec (if jump.isNone then .ready else .done) jump)) ∧
          (W3.putObj (w.heap.size + 1) (.loop (rec (if jump.isNone then .ready else .done) jump))).heap[w.heap.size]? = some (.deferred (some [])) ∧
          W.heap.size ≤ (W3.putObj (w.heap.size + 1) (.loop (rec (if jump.isNone then .ready else .done) jump))).heap.size ∧
          (∀ b, T b → (W3.putObj (w.heap.size + 1) (.loop (rec (if jump.isNone then .ready else .done) jump))).heap[b]? = W.heap[b]?) := fun jump W3 hk3 => by
        have hl3 := hk3.others _ _ hl2 rfl
        have := run_endRound (P := P) jump hl3
        rw [hrec] at this ⊢
        refine ⟨this, by rw [hrec] at hl3; exact hl3, World.putObj_heap_same (lt_of_heap hl3), (World.putObj_heap_other (by omega)).trans (hk3.others _ _ hk2 rfl), ?_, fun b hb => ?_⟩
        · have := hk3.size; simp at this ⊢; exact this
        · have hbl := hT b hb
          rw [World.putObj_heap_other (by omega), hk3.same b hb, World.putObj_heap_other (by omega)]
      rintro e a3 W3 hp
      cases e with
      | normal =>
        obtain ⟨hk3, hi3⟩ := hp
        obtain ⟨hr, hl3, hl4, hk4, hz, ht⟩ := fin none W3 hk3
        exact ⟨_, _, hr, hz, ht, .inl ⟨rfl, hI _ _ _ hi3 (Mild.putObj _ (by omega) hl3 rfl), hl4, hk4⟩⟩
      | ret =>
        obtain ⟨hk3, hi3⟩ := hp
        obtain ⟨hr, hl3, hl4, hk4, hz, ht⟩ := fin (some .ret) W3 hk3
        exact ⟨_, _, hr, hz, ht, .inr ⟨rfl, .ret, hIx _ _ _ _ hi3 (Mild.putObj _ (by omega) hl3 rfl), hl4, hk4⟩⟩
      | exit id =>
        obtain ⟨hk3, hi3⟩ := hp
        obtain ⟨hr, hl3, hl4, hk4, hz, ht⟩ := fin (some (.exit id)) W3 hk3
        exact ⟨_, _, hr, hz, ht, .inr ⟨rfl, .exit id, hIx _ _ _ _ hi3 (Mild.putObj _ (by omega) hl3 rfl), hl4, hk4⟩⟩
      | goto t =>
        obtain ⟨hk3, hi3⟩ := hp
        obtain ⟨hr, hl3, hl4, hk4, hz, ht⟩ := fin (some (.goto t)) W3 hk3
        exact ⟨_, _, hr, hz, ht, .inr ⟨rfl, .goto t, hIx _ _ _ _ hi3 (Mild.putObj _ (by omega) hl3 rfl), hl4, hk4⟩⟩
      | panic ch => exact hp.elim
      | outgrown => exact hp.elim
    · rintro e W2 ⟨⟨v, rfl⟩, (⟨hi, hl, hk⟩ | ⟨i, hik, c, hi, hl, hk⟩)⟩
      · exact ⟨none, _, by have := run_endLoop (P := P) hl (by rw [hrec]; simp); rw [hrec] at this; exact this, hdone _ _ (Nat.le_refl _) (hI _ _ _ hi (Mild.putObj _ (by omega) hl rfl)) ((World.putObj_heap_other (by omega)).trans hk)⟩
      · exact ⟨some c, _, by have := run_endLoop (P := P) hl (by rw [hrec]; simp); rw [hrec] at this; exact this, hstop _ c i _ (Nat.le_refl _) hik (hIx _ _ _ _ hi (Mild.putObj _ (by omega) hl rfl)) ((World.putObj_heap_other (by omega)).trans hk)⟩

/-- The end of a function that holds one range over a function. -/
theorem marks_ret {P : Program} {fn : Func} {R : Ending → World → Prop} {tmps : Array Value} {D : Nat} {W : World} {v : Value}
    (hK : W.heap[D]? = some (.deferred (some []))) (hr : (results fn tmps).run P (W.putObj D (.deferred none)) = .ok v (W.putObj D (.deferred none)))
    (hR : R (.returned v) (W.putObj D (.deferred none))) :
    bodyPostM Fence.wide 0 P fn R .ret { tmps := tmps, defers := [{ target := .collected D, args := #[] }] } W :=
  ⟨by simp, .inl ⟨_, _, rfl, run_takeDeferred hK, ⟨v, hr, hR⟩⟩⟩

theorem marks_none {P : Program} {fn : Func} {R : Ending → World → Prop} {tmps : Array Value} {W : World} {v : Value}
    (hr : (results fn tmps).run P W = .ok v W) (hR : R (.returned v) W) : bodyPostM Fence.wide 0 P fn R .ret { tmps := tmps, defers := [] } W :=
  ⟨v, hr, hR⟩

/-- A contract out of a body that holds ranges over functions. -/
theorem calls_of_range {P : Program} {f : FuncId} {fn : Func} {c : Code} {args : Array Value} {w : World} {R : Ending → World → Prop}
    (hf : P.funcs[f]? = some fn) (hb : fn.body = some c)
    (h : c.wpIn Fence.wide 0 P (bodyPostM Fence.wide 0 P fn R) { tmps := args ++ Array.replicate (fn.ntmps - args.size) undef, defers := [] } w) : Calls P f args w R :=
  callsIn_wide.1 (callsIn_of_wp_marks hf hb trivial h rfl)

theorem wide_fn (f : FuncId) : Fence.wide.fn f = True := rfl
theorem wide_depth : Fence.wide.depth = none := rfl
theorem wide_in_fn (f : FuncId) (l : Nat) : (Fence.wide.inRound l).fn f = True := rfl
theorem wide_in_depth (l : Nat) : (Fence.wide.inRound l).depth = none := rfl
theorem heap_setCell_row {w : World} {b i : Nat} {c : Array Value} {t : TypeId} {f : Nat × Nat} (h : w.heap[b]? = some (.cells c t f)) (v : Value) :
    (w.setCell ⟨b, i, none⟩ v).heap[b]? = some (.cells (c.setIfInBounds i v) t f) := by
  simp [World.setCell, Array.getElem?_modify, h]
theorem cell_of_heap {w : World} {b : Nat} {cs : Array Value} {t : TypeId} {f : Nat × Nat} (h : w.heap[b]? = some (.cells cs t f)) (i : Nat) : w.cell? ⟨b, i, none⟩ = cs[i]? := by
  simp [World.cell?, h]
theorem frozen_of_heap {w : World} {b : Nat} {cs : Array Value} {t : TypeId} (h : w.heap[b]? = some (.cells cs t (0, 0))) (i : Nat) : w.frozen? ⟨b, i, none⟩ = false := by
  simp [World.frozen?, h]
/-- A contract that leaves the world, in the form that 'still_call' asks. -/
theorem sames {P : Program} {f : FuncId} {args : Array Value} {w : World} {v : Value} (h : Calls P f args w fun e w' => e = .returned v ∧ w = w') : Calls P f args w fun e w' => e = .returned v ∧ w' = w :=
  h.mono fun _ _ ⟨he, hw⟩ => ⟨he, hw.symm⟩
/-- A contract, where a range over a function is walked. -/
theorem ranged {P : Program} {f : FuncId} {args : Array Value} {w : World} {R : Ending → World → Prop} (h : Calls P f args w R) : CallsIn Fence.wide 0 P f args w R := callsIn_wide.2 h
theorem inRounds {P : Program} {f : FuncId} {args : Array Value} {w : World} {R : Ending → World → Prop} (l : Nat) (h : Calls P f args w R) : CallsIn (Fence.wide.inRound l) 0 P f args w R := (callsIn_wide (n := 0)).2 h

end Go.Proofs.Ck
