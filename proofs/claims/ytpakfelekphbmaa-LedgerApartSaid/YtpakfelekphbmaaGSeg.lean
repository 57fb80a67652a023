/- Parts of the proofs of this seat's laws. -/
import Derived.WalkKit
import Derived.WalkSpells
import Derived.WalkLawsBesides
import Derived.RangeFuncBox
import Derived.RangeFuncLeaves
import Derived.OwnWalkIn
import Derived.TacticsInMore
import Derived.LoopNIn
import Derived.LoopIn
import Derived.Laws.AppendOwnNone
import Derived.Test.YtpakfelekphbmaaProg
import Derived.Lib.Hide
import Derived.StillTailTactics
import Derived.Laws.CopyOwn
import Derived.Deep.QuietTactic
import Derived.BigQuiet

namespace Go.Proofs.Ck
open Go Go.RowKit

/-- Blocks outside S are as they were. -/
structure Only (S : Nat → Prop) (w w' : World) : Prop where
  os : w'.os = w.os
  tape : w'.tape = w.tape
  output : w'.output = w.output
  size : w.heap.size ≤ w'.heap.size
  block : ∀ k, k < w.heap.size → ¬ S k → w'.heap[k]? = w.heap[k]?

theorem Only.refl (S : Nat → Prop) (w : World) : Only S w w := ⟨rfl, rfl, rfl, Nat.le_refl _, fun _ _ _ => rfl⟩
theorem Only.trans {S : Nat → Prop} {a b c : World} (h : Only S a b) (k : Only S b c) : Only S a c :=
  ⟨k.os.trans h.os, k.tape.trans h.tape, k.output.trans h.output, Nat.le_trans h.size k.size, fun i hi hs => (k.block i (Nat.lt_of_lt_of_le hi h.size) hs).trans (h.block i hi hs)⟩
theorem Only.mono {S S' : Nat → Prop} {a b : World} (h : Only S a b) (hs : ∀ k, k < a.heap.size → S k → S' k) : Only S' a b :=
  ⟨h.os, h.tape, h.output, h.size, fun i hi hn => h.block i hi (fun x => hn (hs i hi x))⟩
theorem Only.of_below {S : Nat → Prop} {a b : World} (h : Below a.heap.size a b) : Only S a b :=
  ⟨h.os, h.tape, h.output, h.size, fun i hi _ => h.block i hi⟩
theorem Only.below {S : Nat → Prop} {a b : World} {n : Nat} (h : Only S a b) (hn : n ≤ a.heap.size) (hs : ∀ k, S k → n ≤ k) : Below n a b :=
  ⟨h.os, h.tape, h.output, h.size, fun i hi => h.block i (by omega) (fun x => by have := hs i x; omega)⟩
theorem Only.drew {S : Nat → Prop} {a b : World} (h : Only S a b) : Only S a b.drew := ⟨h.os, h.tape, h.output, h.size, h.block⟩
theorem Only.alloc {S : Nat → Prop} {a b : World} (h : Only S a b) (o : Obj) : Only S a (b.alloc o) :=
  h.trans ⟨rfl, rfl, rfl, by simp, fun k hk _ => Below.heap_alloc _ _ _ hk⟩
theorem Only.setCell {S : Nat → Prop} {a b : World} (h : Only S a b) {p : Addr} (hp : S p.block) (u : Value) : Only S a (b.setCell p u) :=
  h.trans ⟨rfl, rfl, rfl, by simp [World.setCell], fun k _ hs => Below.heap_setCell _ _ _ _ (fun e => hs (e ▸ hp))⟩

/-- Everything that was there is as it was. -/
abbrev Grow (w w' : World) : Prop := Below w.heap.size w w'

theorem Grow.trans {a b c : World} (h : Grow a b) (k : Grow b c) : Grow a c := Below.trans h (Below.mono k h.size)
theorem Grow.heap {a b : World} (h : Grow a b) {k : Nat} {o : Obj} (hk : a.heap[k]? = some o) : b.heap[k]? = some o :=
  (h.block k (Array.getElem?_eq_some_iff.1 hk).1).trans hk
theorem grow_drew (w : World) : Grow w w.drew := (Below.refl _ w).drew
theorem lt_of_heap {w : World} {k : Nat} {o : Obj} (h : w.heap[k]? = some o) : k < w.heap.size := (Array.getElem?_eq_some_iff.1 h).1
theorem Only.heap {S : Nat → Prop} {a b : World} (h : Only S a b) {k : Nat} {o : Obj} (hk : a.heap[k]? = some o) (hs : ¬ S k) : b.heap[k]? = some o :=
  (h.block k (lt_of_heap hk) hs).trans hk

/-- A turn that a loop over a function minds nothing of: new blocks, and blocks from n on that hold no cells. -/
structure Mild (n : Nat) (A B : World) : Prop where
  os : B.os = A.os
  tape : B.tape = A.tape
  output : B.output = A.output
  size : A.heap.size ≤ B.heap.size
  low : ∀ k, k < n → k < A.heap.size → B.heap[k]? = A.heap[k]?
  cells : ∀ (k : Nat) (o : Obj), A.heap[k]? = some o → o.isCells = true → B.heap[k]? = some o

theorem Mild.of_grow {n : Nat} {A B : World} (h : Grow A B) : Mild n A B := ⟨h.os, h.tape, h.output, h.size, fun k _ hk => h.block k hk, fun _ _ hk _ => h.heap hk⟩
theorem Mild.putObj {n : Nat} {A : World} {l : Nat} {o : Obj} (o' : Obj) (hl : n ≤ l) (ho : A.heap[l]? = some o) (hc : o.isCells = false) : Mild n A (A.putObj l o') :=
  ⟨rfl, rfl, rfl, by simp, fun k hk _ => World.putObj_heap_other (by omega), fun k o2 hk h2 => by
    by_cases e : k = l
    · subst e; rw [ho] at hk; cases hk; rw [hc] at h2; cases h2
    · exact (World.putObj_heap_other e).trans hk⟩
theorem Mild.heap {n : Nat} {A B : World} (h : Mild n A B) {k : Nat} {c : Array Value} {t : TypeId} {f : Nat × Nat} (hk : A.heap[k]? = some (.cells c t f)) : B.heap[k]? = some (.cells c t f) := h.cells _ _ hk rfl
theorem Mild.below {n m : Nat} {w A B : World} (h : Mild n A B) (hw : Below m w A) (hm : m ≤ n) (hs : m ≤ A.heap.size) : Below m w B :=
  hw.trans ⟨h.os, h.tape, h.output, h.size, fun k hk => h.low k (by omega) (by omega)⟩
/-- What the body of a round may do: T's blocks stay, and all that holds no cells. -/
structure Held (T : Nat → Prop) (A B : World) : Prop where
  size : A.heap.size ≤ B.heap.size
  same : ∀ k, T k → B.heap[k]? = A.heap[k]?
  others : ∀ (k : Nat) (o : Obj), A.heap[k]? = some o → o.isCells = false → B.heap[k]? = some o

theorem Held.refl (T : Nat → Prop) (A : World) : Held T A A := ⟨Nat.le_refl _, fun _ _ => rfl, fun _ _ h _ => h⟩
theorem Held.trans {T : Nat → Prop} {A B C : World} (h : Held T A B) (k : Held T B C) : Held T A C :=
  ⟨Nat.le_trans h.size k.size, fun i hi => (k.same i hi).trans (h.same i hi), fun i o hi ho => k.others i o (h.others i o hi ho) ho⟩
theorem Held.setCell {T : Nat → Prop} {A B : World} (h : Held T A B) {p : Addr} (hp : ¬ T p.block) (v : Value) : Held T A (B.setCell p v) :=
  h.trans ⟨by simp [World.setCell], fun k hk => Below.heap_setCell _ _ _ _ (fun e => hp (e ▸ hk)), (KeepsOthers.setCell B p v).same⟩
/-- AN ITERATOR THAT HANDS OUT encs 0, .., encs (k - 1), as long as T's blocks are as they are in W0. -/
def Iter (P : Program) (g : Nat) (lb : Array Value) (k : Nat) (encs : Nat → Array Value) (T : Nat → Prop) (W0 : World) : Prop :=
  ∀ (l : Nat) (J Jx : Nat → World → Prop) (W : World), W0.heap.size ≤ W.heap.size → (∀ b, T b → W.heap[b]? = W0.heap[b]?) →
    (∀ i A B, J i A → Grow A B → J i B) →
    (∀ i W1, i < k → J i W1 → YieldAt Fence.wide 0 P l (encs i) W1 fun e W' => W1.heap.size ≤ W'.heap.size ∧ (∀ b, T b → W'.heap[b]? = W1.heap[b]?) ∧
      ((e = .returned (.bool true) ∧ J (i + 1) W') ∨ (e = .returned (.bool false) ∧ Jx i W'))) →
    (∀ i A B, Jx i A → Grow A B → Jx i B) →
    J 0 W →
    CallsIn Fence.wide 0 P g (#[.func (.yield l) #[] #[]] ++ lb) W fun e W' => (∃ v, e = .returned v) ∧ (J k W' ∨ ∃ i, i < k ∧ Jx i W')

/-- How the body of a round may be left. -/
def roundEnd (T : Nat → Prop) (I : Nat → World → Prop) (Ix : Code → Nat → World → Prop) (i : Nat) (W : World) : Exit → Act → World → Prop
  | .normal, _, W' => Held T W W' ∧ I (i + 1) W'
  | .ret, _, W' => Held T W W' ∧ Ix .ret i W'
  | .exit id, _, W' => Held T W W' ∧ Ix (.exit id) i W'
  | .goto t, _, W' => Held T W W' ∧ Ix (.goto t) i W'
  | .panic _, _, _ => False
  | .outgrown, _, _ => False

/-- THE RULE FOR 'for .. := range g { body }'. -/
theorem wp_range {P : Program} {g : Operand} {ps : Array Tmp} {assign body : Code} {Q : Exit → Act → World → Prop} {a : Act} {w : World}
    {gf : Nat} {lb : Array Value} (hg : a.eval g = .func (.func gf) #[] lb) (eg : ∀ args w, (callFunc gf args).run P w = .ok (.enter gf args) w)
    {k : Nat} {encs : Nat → Array Value} {T : Nat → Prop} (hit : Iter P gf lb k encs T w) (hT : ∀ b, T b → b < w.heap.size) (hps : ∀ i, (encs i).size = ps.size)
    (I : Nat → World → Prop) (Ix : Code → Nat → World → Prop)
    (hI : ∀ i A B, I i A → Mild w.heap.size A B → I i B) (hIx : ∀ c i A B, Ix c i A → Mild w.heap.size A B → Ix c i B) (h0 : I 0 w) (a₁ : Nat → Act)
    (hassign : ∀ (l i : Nat) (W : World) (K : Act → World → Prop), K (a₁ i) W →
      assign.wpIn (Fence.wide.inRound l) 0 P (Exit.then K (fun _ _ _ => False)) { tmps := (ps.zip (encs i)).foldl (fun t (p, v) => t.setIfInBounds p v) a.tmps, defers := [] } W)
    (hbody : ∀ (l i : Nat) (W : World), i < k → I i W → body.wpIn (Fence.wide.inRound l) 0 P (roundEnd T I Ix i W) (a₁ i) W)
    (hdone : ∀ (D : Nat) (W : World), w.heap.size ≤ D → I k W → W.heap[D]? = some (.deferred (some [])) → Q .normal { a with defers := { target := .collected D, args := #[] } :: a.defers } W)
    (hstop : ∀ (D : Nat) (c : Code) (i : Nat) (W : World), w.heap.size ≤ D → i < k → Ix c i W → W.heap[D]? = some (.deferred (some [])) → c.wpIn Fence.wide 0 P Q { a with defers := { target := .collected D, args := #[] } :: a.defers } W) :
    (Code.rangeFunc g ps assign body).wpIn Fence.wide 0 P Q a w := by
  refine wpIn_rangeFunc ?_
  intro fn hfn
  obtain ⟨rec, hrec⟩ : ∃ rec : LoopState → Option Code → Loop, rec = fun st pe => { state := st, pending := pe, fn, tmps := a.tmps, params := ps, assign, body, defers := w.heap.size } := ⟨_, rfl⟩
  obtain ⟨W1, hW1⟩ : ∃ W1, (w.alloc (.deferred (some []))).alloc (.loop (rec .ready none)) = W1 := ⟨_, rfl⟩
  have hL1 : W1.heap[w.heap.size + 1]? = some (.loop (rec .ready none)) := by
    rw [← hW1]; have := World.alloc_heap_new (w.alloc (.deferred (some []))) (.loop (rec .ready none)); rwa [World.size_alloc] at this
  have hK1 : W1.heap[w.heap.size]? = some (.deferred (some [])) := by
    rw [← hW1]; exact (Below.heap_alloc _ _ _ (by simp)).trans (World.alloc_heap_new w _)
  have hb1 : Grow w W1 := by
    rw [← hW1]; exact ((Below.refl _ w).alloc (Nat.le_refl _) _).alloc (by simp) _
  have hI1 : I 0 W1 := hI _ _ _ h0 (Mild.of_grow hb1)
  refine ⟨w.heap.size + 1, [{ target := .collected w.heap.size, args := #[] }], W1, { target := .fn (.func gf) lb, args := #[.func (.yield (w.heap.size + 1)) #[] #[]] }, W1, gf,
    #[.func (.yield (w.heap.size + 1)) #[] #[]] ++ lb, W1, ?_, ?_, ?_, ?_, fun h => by simp [Fence.wide] at h, ?_⟩
  · rw [← hW1, hrec]; exact run_enterLoop_outer _ _ _ _ _
  · simp only [resolve, hg]
    simp [go_sem]
  · intro f' _; trivial
  · simp [invoke, go_sem, eg]
  · refine (hit (w.heap.size + 1)
      (fun i W => I i W ∧ W.heap[w.heap.size + 1]? = some (.loop (rec .ready none)) ∧ W.heap[w.heap.size]? = some (.deferred (some [])))
      (fun i W => ∃ c, Ix c i W ∧ W.heap[w.heap.size + 1]? = some (.loop (rec .done (some c))) ∧ W.heap[w.heap.size]? = some (.deferred (some [])))
      W1 hb1.size (fun b hb => hb1.block b (hT b hb))
      (fun i A B hs hg' => ⟨hI _ _ _ hs.1 (Mild.of_grow hg'), hg'.heap hs.2.1, hg'.heap hs.2.2⟩)
      ?_
      (fun i A B hs hg' => by
        obtain ⟨c, hc, hl, hk⟩ := hs
        exact ⟨c, hIx _ _ _ _ hc (Mild.of_grow hg'), hg'.heap hl, hg'.heap hk⟩)
      ⟨hI1, hL1, hK1⟩).mono ?_
    · rintro i W hik ⟨hi, hl, hk⟩
      have hlt : w.heap.size + 1 < W.heap.size := lt_of_heap hl
      have hy := run_yield (P := P) (args := encs i) hl (by rw [hrec]; exact hps i)
      rw [hrec] at hy
      refine ⟨fn, _, assign, body, hy, roundIn_of_wpIn hfn (hassign _ i W _ ⟨_, run_beginRound hl (by rw [hrec]), ?_⟩)⟩
      have hl2 : (W.putObj (w.heap.size + 1) (.loop { rec .ready none with state := .busy })).heap[w.heap.size + 1]? = some (.loop { rec .ready none with state := .busy }) := World.putObj_heap_same hlt
      have hk2 : (W.putObj (w.heap.size + 1) (.loop { rec .ready none with state := .busy })).heap[w.heap.size]? = some (.deferred (some [])) := (World.putObj_heap_other (by omega)).trans hk
      refine wpIn_mono (hbody _ i _ hik (hI _ _ _ hi (Mild.putObj _ (by omega) hl rfl))) ?_
      have fin : ∀ (jump : Option Code) (W3 : World), Held T (W.putObj (w.heap.size + 1) (.loop { rec .ready none with state := .busy })) W3 →
          (Instr.endRound (w.heap.size + 1) jump).run P W3 = .ok (.bool jump.isNone) (W3.putObj (w.heap.size + 1) (.loop (rec (if jump.isNone then .ready else .done) jump))) ∧
          W3.heap[w.heap.size + 1]? = some (.loop { rec .ready none with state := .busy }) ∧
          (W3.putObj (w.heap.size + 1) (.loop (rec (if jump.isNone then .ready else .done) jump))).heap[w.heap.size + 1]? = some (.loop (rec (if jump.isNone then .ready else .done) jump)) ∧
          (W3.putObj (w.heap.size + 1) (.loop (rec (if jump.isNone then .ready else .done) jump))).heap[w.heap.size]? = some (.deferred (some [])) ∧
          W.heap.size ≤ (W3.putObj (w.heap.size + 1) (.loop (rec (if jump.isNone then .ready else .done) jump))).heap.size ∧
          (∀ b, T b → (W3.putObj (w.heap.size + 1) (.loop (rec (if jump.isNone then .ready else .done) jump))).heap[b]? = W.heap[b]?) := fun jump W3 hk3 => by
        have hl3 := hk3.others _ _ hl2 rfl
        have := run_endRound (P := P) jump hl3
        rw [hrec] at this ⊢
        refine ⟨this, by rw [hrec] at hl3; exact hl3, World.putObj_heap_same (lt_of_heap hl3), (World.putObj_heap_other (by omega)).trans (hk3.others _ _ hk2 rfl), ?_, fun b hb => ?_⟩
        · have := hk3.size; simp at this ⊢; exact this
        · have hbl := hT b hb
          rw [World.putObj_heap_other (by omega), hk3.same b hb, World.putObj_heap_other (by omega)]
      rintro e a3 W3 hp
      cases e with
      | normal =>
        obtain ⟨hk3, hi3⟩ := hp
        obtain ⟨hr, hl3, hl4, hk4, hz, ht⟩ := fin none W3 hk3
        exact ⟨_, _, hr, hz, ht, .inl ⟨rfl, hI _ _ _ hi3 (Mild.putObj _ (by omega) hl3 rfl), hl4, hk4⟩⟩
      | ret =>
        obtain ⟨hk3, hi3⟩ := hp
        obtain ⟨hr, hl3, hl4, hk4, hz, ht⟩ := fin (some .ret) W3 hk3
        exact ⟨_, _, hr, hz, ht, .inr ⟨rfl, .ret, hIx _ _ _ _ hi3 (Mild.putObj _ (by omega) hl3 rfl), hl4, hk4⟩⟩
      | exit id =>
        obtain ⟨hk3, hi3⟩ := hp
        obtain ⟨hr, hl3, hl4, hk4, hz, ht⟩ := fin (some (.exit id)) W3 hk3
        exact ⟨_, _, hr, hz, ht, .inr ⟨rfl, .exit id, hIx _ _ _ _ hi3 (Mild.putObj _ (by omega) hl3 rfl), hl4, hk4⟩⟩
      | goto t =>
        obtain ⟨hk3, hi3⟩ := hp
        obtain ⟨hr, hl3, hl4, hk4, hz, ht⟩ := fin (some (.goto t)) W3 hk3
        exact ⟨_, _, hr, hz, ht, .inr ⟨rfl, .goto t, hIx _ _ _ _ hi3 (Mild.putObj _ (by omega) hl3 rfl), hl4, hk4⟩⟩
      | panic ch => exact hp.elim
      | outgrown => exact hp.elim
    · rintro e W2 ⟨⟨v, rfl⟩, (⟨hi, hl, hk⟩ | ⟨i, hik, c, hi, hl, hk⟩)⟩
      · exact ⟨none, _, by have := run_endLoop (P := P) hl (by rw [hrec]; simp); rw [hrec] at this; exact this, hdone _ _ (Nat.le_refl _) (hI _ _ _ hi (Mild.putObj _ (by omega) hl rfl)) ((World.putObj_heap_other (by omega)).trans hk)⟩
      · exact ⟨some c, _, by have := run_endLoop (P := P) hl (by rw [hrec]; simp); rw [hrec] at this; exact this, hstop _ c i _ (Nat.le_refl _) hik (hIx _ _ _ _ hi (Mild.putObj _ (by omega) hl rfl)) ((World.putObj_heap_other (by omega)).trans hk)⟩

/-- The end of a function that holds one range over a function. -/
theorem marks_ret {P : Program} {fn : Func} {R : Ending → World → Prop} {tmps : Array Value} {D : Nat} {W : World} {v : Value}
    (hK : W.heap[D]? = some (.deferred (some []))) (hr : (results fn tmps).run P (W.putObj D (.deferred none)) = .ok v (W.putObj D (.deferred none)))
    (hR : R (.returned v) (W.putObj D (.deferred none))) :
    bodyPostM Fence.wide 0 P fn R .ret { tmps := tmps, defers := [{ target := .collected D, args := #[] }] } W :=
  ⟨by simp, .inl ⟨_, _, rfl, run_takeDeferred hK, ⟨v, hr, hR⟩⟩⟩

theorem marks_none {P : Program} {fn : Func} {R : Ending → World → Prop} {tmps : Array Value} {W : World} {v : Value}
    (hr : (results fn tmps).run P W = .ok v W) (hR : R (.returned v) W) : bodyPostM Fence.wide 0 P fn R .ret { tmps := tmps, defers := [] } W :=
  ⟨v, hr, hR⟩

/-- A contract out of a body that holds ranges over functions. -/
theorem calls_of_range {P : Program} {f : FuncId} {fn : Func} {c : Code} {args : Array Value} {w : World} {R : Ending → World → Prop}
    (hf : P.funcs[f]? = some fn) (hb : fn.body = some c)
    (h : c.wpIn Fence.wide 0 P (bodyPostM Fence.wide 0 P fn R) { tmps := args ++ Array.replicate (fn.ntmps - args.size) undef, defers := [] } w) : Calls P f args w R :=
  callsIn_wide.1 (callsIn_of_wp_marks hf hb trivial h rfl)

theorem wide_fn (f : FuncId) : Fence.wide.fn f = True := rfl
theorem wide_depth : Fence.wide.depth = none := rfl
theorem wide_in_fn (f : FuncId) (l : Nat) : (Fence.wide.inRound l).fn f = True := rfl
theorem wide_in_depth (l : Nat) : (Fence.wide.inRound l).depth = none := rfl
theorem heap_setCell_row {w : World} {b i : Nat} {c : Array Value} {t : TypeId} {f : Nat × Nat} (h : w.heap[b]? = some (.cells c t f)) (v : Value) :
    (w.setCell ⟨b, i, none⟩ v).heap[b]? = some (.cells (c.setIfInBounds i v) t f) := by
  simp [World.setCell, Array.getElem?_modify, h]
theorem cell_of_heap {w : World} {b : Nat} {cs : Array Value} {t : TypeId} {f : Nat × Nat} (h : w.heap[b]? = some (.cells cs t f)) (i : Nat) : w.cell? ⟨b, i, none⟩ = cs[i]? := by
  simp [World.cell?, h]
theorem frozen_of_heap {w : World} {b : Nat} {cs : Array Value} {t : TypeId} (h : w.heap[b]? = some (.cells cs t (0, 0))) (i : Nat) : w.frozen? ⟨b, i, none⟩ = false := by
  simp [World.frozen?, h]
/-- A contract that leaves the world, in the form that 'still_call' asks. -/
theorem sames {P : Program} {f : FuncId} {args : Array Value} {w : World} {v : Value} (h : Calls P f args w fun e w' => e = .returned v ∧ w = w') : Calls P f args w fun e w' => e = .returned v ∧ w' = w :=
  h.mono fun _ _ ⟨he, hw⟩ => ⟨he, hw.symm⟩
/-- A contract, where a range over a function is walked. -/
theorem ranged {P : Program} {f : FuncId} {args : Array Value} {w : World} {R : Ending → World → Prop} (h : Calls P f args w R) : CallsIn Fence.wide 0 P f args w R := callsIn_wide.2 h
end Go.Proofs.Ck

namespace Go.Proofs.Ck
open Go Go.RowKit

/-- The slice value '.slice A n c' holds the cells xs, k an element, in a block of S. -/
structure Row (S : Nat → Prop) (w : World) (A : Option Addr) (n k : Nat) (xs : List Value) : Prop where
  len : xs.length = n * k
  at_ : 0 < xs.length → ∃ b off, A = some ⟨b, off, none⟩ ∧ S b ∧ ∀ j u, xs[j]? = some u → w.cell? ⟨b, off + j, none⟩ = some u

theorem Row.empty {S : Nat → Prop} {w : World} {A : Option Addr} {k : Nat} : Row S w A 0 k [] := ⟨by simp, fun h => absurd h (by simp)⟩
theorem Row.move {S S' : Nat → Prop} {w w' : World} {A : Option Addr} {n k : Nat} {xs : List Value} (h : Row S w A n k xs)
    (hm : ∀ b o, S b → w.heap[b]? = some o → w'.heap[b]? = some o ∧ S' b) : Row S' w' A n k xs :=
  ⟨h.len, fun hp => by
    obtain ⟨b, off, rfl, hs, hc⟩ := h.at_ hp
    have hx : w.cell? ⟨b, off + 0, none⟩ = some (xs[0]) := hc 0 _ (List.getElem?_eq_getElem hp)
    obtain ⟨o, ho, -⟩ := cells_of_cell hx
    obtain ⟨h1, h2⟩ := hm b o hs ho
    exact ⟨b, off, rfl, h2, fun j u hj => (World.cell?_of_block (w := w) (a := ⟨b, off + j, none⟩) (h1.trans ho.symm)).trans (hc j u hj)⟩⟩
theorem Row.mono {S S' : Nat → Prop} {w : World} {A : Option Addr} {n k : Nat} {xs : List Value} (h : Row S w A n k xs) (hm : ∀ b, b < w.heap.size → S b → S' b) : Row S' w A n k xs :=
  h.move fun b _ hs ho => ⟨ho, hm b (lt_of_heap ho) hs⟩
theorem Row.grow {S : Nat → Prop} {w w' : World} {A : Option Addr} {n k : Nat} {xs : List Value} (h : Row S w A n k xs) (hg : Grow w w') : Row S w' A n k xs :=
  h.move fun _ _ hs ho => ⟨hg.heap ho, hs⟩
theorem Row.only {S M : Nat → Prop} {w w' : World} {A : Option Addr} {n k : Nat} {xs : List Value} (h : Row S w A n k xs) (hg : Only M w w') (hM : ∀ b, M b → ¬ S b) : Row S w' A n k xs :=
  h.move fun b _ hs ho => ⟨hg.heap ho (fun x => hM b x hs), hs⟩
theorem Row.pos {S : Nat → Prop} {w : World} {A : Option Addr} {n k : Nat} {xs : List Value} (h : Row S w A n k xs) (hn : 0 < n) (hk : 0 < k) :
    ∃ b off, A = some ⟨b, off, none⟩ ∧ S b ∧ ∀ j u, xs[j]? = some u → w.cell? ⟨b, off + j, none⟩ = some u :=
  h.at_ (by rw [h.len]; exact Nat.mul_pos hn hk)

theorem Row.of_own {w : World} {base : Nat} {e : TypeId} {k n : Nat} {v : Value} {xs : List Value} (h : w.ownsRow base e k v n xs) :
    ∃ A c, v = .slice A n c ∧ n ≤ c ∧ c ≤ maxLen ∧ Row (fun b => base ≤ b) w A n k xs := by
  rcases h.2 with ⟨rfl, rfl⟩ | ⟨g, cap, cur, rfl, hb, _, hn, hm, _⟩
  · have : xs = [] := List.eq_nil_of_length_eq_zero (by simpa using h.1)
    subst this
    exact ⟨none, 0, rfl, Nat.le_refl _, Nat.zero_le _, Row.empty⟩
  · refine ⟨_, cap, rfl, hn, hm, h.1, fun _ => ⟨g, 0, rfl, hb, fun j u hj => ?_⟩⟩
    have := h.cells (g := g) rfl j u hj
    have hadd : (⟨g, 0, none⟩ : Addr).add j = ⟨g, 0 + j, none⟩ := by unfold Addr.add; split <;> simp_all
    rwa [hadd] at this

theorem only_of_grown {w w' : World} {row : Option Nat} (h : w.grownBy w' row) : Only (fun b => row = some b) w w' :=
  ⟨h.os, h.tape, h.output, h.size, fun k hk hs => h.block k hk (fun e => hs e.symm)⟩

section
variable {P : Program}

theorem run_append_row {S : Nat → Prop} (w : World) (base : Nat) (t ty e : TypeId) (i : TypeInfo) (z : Value) (size bytes : Nat) (ht : P.underlying t = some (.slice e)) (hi : P.info? e = some i) (hz : i.zero = some z)
    (hsize : i.size = size) (hby : i.bytes = bytes) (hzs : z.cells.size = size) (hsz : 0 < size)
    (v : Value) (n : Nat) (xs : List Value) (hown : w.ownsRow base e size v n xs)
    (A : Option Addr) (m c : Nat) (news : List Value) (hr : Row S w A m size news) (hA : A = none → c = 0) (h1 : ∀ u ∈ news, u.oneCell' = true)
    (h63 : n + m ≤ maxLen) (hbytes : (n + m) * bytes ≤ 140737488355328) (hbase : base ≤ w.heap.size) :
    ∃ v' w', (Builtin.append_ #[t, t] ty #[v, .slice A m c]).run P w = .ok v' w' ∧ w'.ownsRow base e size v' (n + m) (xs ++ news) ∧ w.grownBy w' v.ownBlock := by
  cases A with
  | none =>
    have hm : m = 0 := by
      rcases Nat.eq_zero_or_pos m with h | h
      · exact h
      · obtain ⟨_, _, h', _⟩ := hr.pos h hsz; cases h'
    subst hm
    have hn : news = [] := List.eq_nil_of_length_eq_zero (by simpa using hr.len)
    subst hn
    rw [hA rfl]
    exact ⟨v, w, run_append_owned_none (P := P) w base t ty e i size ht hi v n xs hown, by simpa using hown, ⟨rfl, rfl, rfl, Nat.le_refl _, fun _ _ _ => rfl⟩⟩
  | some ad =>
    have hc : ∀ j u, news[j]? = some u → w.cell? (ad.add j) = some u := by
      intro j u hj
      obtain ⟨b, off, hb, _, hc⟩ := hr.at_ (by have := (List.getElem?_eq_some_iff.1 hj).1; omega)
      cases hb
      have hadd : (⟨b, off, none⟩ : Addr).add j = ⟨b, off + j, none⟩ := by unfold Addr.add; split <;> simp_all
      rw [hadd]
      exact hc j u hj
    obtain ⟨v', w', r1, r2, r3, _⟩ := run_append_own (P := P) w base t ty e i z size bytes ht hi hz hsize hby hzs hsz v n xs hown ad m c news hr.len hc h1 h63 hbytes hbase
    exact ⟨v', w', r1, r2, r3⟩

/-- 'append(s, x...)', s a row of the call's own. -/
theorem wpList_append_row {S : Nat → Prop} (w : World) {ops : Array Oper} {rest : List Oper} {o : Oper} {a : Act} {Q : Exit → Act → World → Prop} (hgd : o.guard = none) (s x : Operand) (t : TypeId)
    (ho : o.op = .call { callee := .builtin .append, args := #[s, x], argTypes := #[t, t] })
    (base : Nat) (e : TypeId) (i : TypeInfo) (z : Value) (size bytes : Nat) (ht : P.underlying t = some (.slice e)) (hi : P.info? e = some i) (hz : i.zero = some z)
    (hsize : i.size = size) (hby : i.bytes = bytes) (hzs : z.cells.size = size) (hsz : 0 < size)
    (v : Value) (n : Nat) (xs : List Value) (hs : a.eval s = v) (hown : w.ownsRow base e size v n xs)
    (A : Option Addr) (m c : Nat) (news : List Value) (hx : a.eval x = .slice A m c) (hr : Row S w A m size news) (hA : A = none → c = 0) (h1 : ∀ u ∈ news, u.oneCell' = true)
    (h63 : n + m ≤ maxLen) (hbytes : (n + m) * bytes ≤ 140737488355328) (hbase : base ≤ w.heap.size)
    (h : ∀ v' w', w'.ownsRow base e size v' (n + m) (xs ++ news) → Only (fun b => v.ownBlock = some b) w w' → wpList P ops Q rest (a.put o.dst v') w') : wpList P ops Q (o :: rest) a w := by
  refine wpList_plain hgd fun K hK => ?_
  obtain ⟨v', w', hrun, r1, r2⟩ := run_append_row (P := P) w base t o.type e i z size bytes ht hi hz hsize hby hzs hsz v n xs hown A m c news hr hA h1 h63 hbytes hbase
  unfold Oper.wp
  simp [execOp, ho, resolve, invoke, builtin, hs, hx, hrun, Result.andThen]
  exact hK _ _ (h v' w' r1 (only_of_grown r2))

/-- 'append(s, x)' of one element: the element lies in a block that has just been laid. -/
theorem wpList_push (w : World) {W : World} {ops : Array Oper} {rest : List Oper} {o : Oper} {a : Act} {Q : Exit → Act → World → Prop} (hgd : o.guard = none) (s x : Operand) (t : TypeId)
    (ho : o.op = .call { callee := .builtin .append, args := #[s, x], argTypes := #[t, t] })
    (base : Nat) (e : TypeId) (i : TypeInfo) (z : Value) (size bytes : Nat) (ht : P.underlying t = some (.slice e)) (hi : P.info? e = some i) (hz : i.zero = some z)
    (hsize : i.size = size) (hby : i.bytes = bytes) (hzs : z.cells.size = size) (hsz : 0 < size)
    (v : Value) (n : Nat) (xs : List Value) (hs : a.eval s = v) (hown : w.ownsRow base e size v n xs)
    (cs : Array Value) (hx : a.eval x = .slice (some ⟨w.heap.size, 0, none⟩) 1 1) (hcs : cs.size = size) (h1 : ∀ u ∈ cs.toList, u.oneCell' = true)
    (hW : W = w.alloc (.cells cs e)) (h63 : n + 1 ≤ maxLen) (hbytes : (n + 1) * bytes ≤ 140737488355328) (hbase : base ≤ w.heap.size)
    (h : ∀ v' w', w'.ownsRow base e size v' (n + 1) (xs ++ cs.toList) → Only (fun b => v.ownBlock = some b) w w' → wpList P ops Q rest (a.put o.dst v') w') : wpList P ops Q (o :: rest) a W := by
  subst hW
  have hnew : (w.alloc (.cells cs e)).heap[w.heap.size]? = some (.cells cs e (0, 0)) := World.alloc_heap_new w _
  refine wpList_append_row (S := fun _ => True) (w.alloc (.cells cs e)) hgd s x t ho base e i z size bytes ht hi hz hsize hby hzs hsz v n xs hs (hown.alloc _)
    (some ⟨w.heap.size, 0, none⟩) 1 1 cs.toList hx ⟨by simpa using hcs, fun _ => ⟨_, _, rfl, trivial, fun j u hj => ?_⟩⟩ (fun h => by cases h) h1 h63 hbytes (by simp; omega) fun v' w' r1 r2 => h v' w' r1 ?_
  · rw [cell_of_heap hnew]; simpa using hj
  · have r0 : Only (fun b => v.ownBlock = some b) w (w.alloc (.cells cs e)) := (Only.refl _ _).alloc _
    exact r0.trans r2

theorem wpListIn_append_row {F : Fence} {f : Nat} {S : Nat → Prop} (w : World) {ops : Array Oper} {rest : List Oper} {o : Oper} {a : Act} {Q : Exit → Act → World → Prop} (hgd : o.guard = none) (s x : Operand) (t : TypeId)
    (ho : o.op = .call { callee := .builtin .append, args := #[s, x], argTypes := #[t, t] })
    (base : Nat) (e : TypeId) (i : TypeInfo) (z : Value) (size bytes : Nat) (ht : P.underlying t = some (.slice e)) (hi : P.info? e = some i) (hz : i.zero = some z)
    (hsize : i.size = size) (hby : i.bytes = bytes) (hzs : z.cells.size = size) (hsz : 0 < size)
    (v : Value) (n : Nat) (xs : List Value) (hs : a.eval s = v) (hown : w.ownsRow base e size v n xs)
    (A : Option Addr) (m c : Nat) (news : List Value) (hx : a.eval x = .slice A m c) (hr : Row S w A m size news) (hA : A = none → c = 0) (h1 : ∀ u ∈ news, u.oneCell' = true)
    (h63 : n + m ≤ maxLen) (hbytes : (n + m) * bytes ≤ 140737488355328) (hbase : base ≤ w.heap.size)
    (h : ∀ v' w', w'.ownsRow base e size v' (n + m) (xs ++ news) → Only (fun b => v.ownBlock = some b) w w' → wpListIn F f P ops Q rest (a.put o.dst v') w') : wpListIn F f P ops Q (o :: rest) a w := by
  refine wpListIn_plain hgd fun K hK => ?_
  obtain ⟨v', w', hrun, r1, r2⟩ := run_append_row (P := P) w base t o.type e i z size bytes ht hi hz hsize hby hzs hsz v n xs hown A m c news hr hA h1 h63 hbytes hbase
  unfold Oper.wpIn
  refine ⟨?_, ?_⟩
  · simp [Oper.about, ho, resolve, Target.leads, Sem.run_pure]
  · rw [Oper.semAt_plain F _ _ (by rw [ho]; intro c hc'; cases hc')]
    simp [execOp, ho, resolve, invoke, builtin, hs, hx, hrun, Result.andThen]
    exact hK _ _ (h v' w' r1 (only_of_grown r2))

theorem wpListIn_push {F : Fence} {f : Nat} (w : World) {W : World} {ops : Array Oper} {rest : List Oper} {o : Oper} {a : Act} {Q : Exit → Act → World → Prop} (hgd : o.guard = none) (s x : Operand) (t : TypeId)
    (ho : o.op = .call { callee := .builtin .append, args := #[s, x], argTypes := #[t, t] })
    (base : Nat) (e : TypeId) (i : TypeInfo) (z : Value) (size bytes : Nat) (ht : P.underlying t = some (.slice e)) (hi : P.info? e = some i) (hz : i.zero = some z)
    (hsize : i.size = size) (hby : i.bytes = bytes) (hzs : z.cells.size = size) (hsz : 0 < size)
    (v : Value) (n : Nat) (xs : List Value) (hs : a.eval s = v) (hown : w.ownsRow base e size v n xs)
    (cs : Array Value) (hx : a.eval x = .slice (some ⟨w.heap.size, 0, none⟩) 1 1) (hcs : cs.size = size) (h1 : ∀ u ∈ cs.toList, u.oneCell' = true)
    (hW : W = w.alloc (.cells cs e)) (h63 : n + 1 ≤ maxLen) (hbytes : (n + 1) * bytes ≤ 140737488355328) (hbase : base ≤ w.heap.size)
    (h : ∀ v' w', w'.ownsRow base e size v' (n + 1) (xs ++ cs.toList) → Only (fun b => v.ownBlock = some b) w w' → wpListIn F f P ops Q rest (a.put o.dst v') w') : wpListIn F f P ops Q (o :: rest) a W := by
  subst hW
  have hnew : (w.alloc (.cells cs e)).heap[w.heap.size]? = some (.cells cs e (0, 0)) := World.alloc_heap_new w _
  refine wpListIn_append_row (S := fun _ => True) (w.alloc (.cells cs e)) hgd s x t ho base e i z size bytes ht hi hz hsize hby hzs hsz v n xs hs (hown.alloc _)
    (some ⟨w.heap.size, 0, none⟩) 1 1 cs.toList hx ⟨by simpa using hcs, fun _ => ⟨_, _, rfl, trivial, fun j u hj => ?_⟩⟩ (fun h => by cases h) h1 h63 hbytes (by simp; omega) fun v' w' r1 r2 => h v' w' r1 ?_
  · rw [cell_of_heap hnew]; simpa using hj
  · have r0 : Only (fun b => v.ownBlock = some b) w (w.alloc (.cells cs e)) := (Only.refl _ _).alloc _
    exact r0.trans r2
end

theorem own_form {w : World} {base : Nat} {e : TypeId} {k n : Nat} {v : Value} {xs : List Value} (h : w.ownsRow base e k v n xs) (hn : 0 < n) :
    ∃ g cap cur, v = .slice (some ⟨g, 0, none⟩) n cap ∧ base ≤ g ∧ w.heap[g]? = some (.cells cur e (0, 0)) ∧ n ≤ cap ∧ cap ≤ maxLen ∧ cur.size = cap * k ∧ (∀ (j : Nat) (u : Value), xs[j]? = some u → cur[j]? = some u) := by
  rcases h.2 with ⟨_, h0⟩ | ⟨g, cap, cur, rfl, hb, hg, hc, hm, hz, ht⟩
  · omega
  · refine ⟨g, cap, cur, rfl, hb, hg, hc, hm, hz, fun j u hj => ?_⟩
    rw [← ht, List.getElem?_take] at hj
    split at hj
    · simpa using hj
    · cases hj

theorem own_some {w : World} {base : Nat} {e : TypeId} {k n g cap : Nat} {xs : List Value} (h : w.ownsRow base e k (.slice (some ⟨g, 0, none⟩) n cap) n xs) :
    ∃ cur : Array Value, base ≤ g ∧ w.heap[g]? = some (.cells cur e (0, 0)) ∧ n ≤ cap ∧ cap ≤ maxLen ∧ cur.size = cap * k ∧ (∀ (j : Nat) (u : Value), xs[j]? = some u → cur[j]? = some u) := by
  rcases h.2 with ⟨h', _⟩ | ⟨g', cap', cur, h', hb, hg, hc, hm, hz, ht⟩
  · simp at h'
  · simp only [Value.slice.injEq, Option.some.injEq, Addr.mk.injEq, and_true, true_and] at h'
    obtain ⟨rfl, rfl⟩ := h'
    refine ⟨cur, hb, hg, hc, hm, hz, fun j u hj => ?_⟩
    rw [← ht, List.getElem?_take] at hj
    split at hj
    · simpa using hj
    · cases hj

/-- A row that is known by its block. -/
theorem Row.of_block {S : Nat → Prop} {w : World} {g : Nat} {cur : Array Value} {e : TypeId} {n k : Nat} {xs : List Value} {f : Nat × Nat} (hg : w.heap[g]? = some (.cells cur e f)) (hs : S g)
    (hl : xs.length = n * k) (hx : ∀ (j : Nat) (u : Value), xs[j]? = some u → cur[j]? = some u) : Row S w (some ⟨g, 0, none⟩) n k xs :=
  ⟨hl, fun _ => ⟨g, 0, rfl, hs, fun j u hj => by rw [cell_of_heap hg, Nat.zero_add]; exact hx j u hj⟩⟩

theorem own_ge {w : World} {base : Nat} {e : TypeId} {size : Nat} {v : Value} {n : Nat} {xs : List Value} (h : w.ownsRow base e size v n xs) : ∀ b, v.ownBlock = some b → base ≤ b := fun b hb => (h.lt b hb).1
theorem grow_own {w wr w1 : World} {e : TypeId} {size : Nat} {v : Value} {n : Nat} {xs : List Value} (hg : Grow w wr) (hown : wr.ownsRow w.heap.size e size v n xs) (ho : Only (fun b => v.ownBlock = some b) wr w1) : Grow w w1 :=
  Below.trans hg (ho.below hg.size (own_ge hown))
theorem own_grow {w w' : World} {base : Nat} {e : TypeId} {size : Nat} {v : Value} {n : Nat} {xs : List Value} (h : w.ownsRow base e size v n xs) (hg : Grow w w') : w'.ownsRow base e size v n xs := by
  refine ⟨h.1, ?_⟩
  rcases h.2 with hn | ⟨g, cap, cur, rfl, hb, hgg, rest⟩
  · exact .inl hn
  · exact .inr ⟨g, cap, cur, rfl, hb, hg.heap hgg, rest⟩
end Go.Proofs.Ck

namespace Go.Proofs.Ck
open Go Go.RowKit

def byteOf (v j : Nat) : Nat := v / 256 ^ j % 256
def segByte (W : List Nat) (j : Nat) : Nat := byteOf (W.getD (j / 8) 0) (j % 8)

/-- A segment at block sb, its bytes at block bb. -/
structure SegRep (w : World) (sb bb : Nat) (cap : Nat) (cs : Array Value) (W : List Nat) : Prop where
  seg : w.heap[sb]? = some (.cells #[.slice (some ⟨bb, 0, none⟩) (8 * W.length) cap] 174 (0, 0))
  bytes : w.heap[bb]? = some (.cells cs 5 (0, 0))
  size : cs.size = cap
  le : 8 * W.length ≤ cap
  capLe : cap ≤ 9223372036854775807
  small : 8 * W.length ≤ 140737488351232
  cell : ∀ j, j < 8 * W.length → cs[j]? = some (.int .u8 (segByte W j))
  words : ∀ x ∈ W, x < 18446744073709551616

theorem SegRep.head {w : World} {sb bb cap : Nat} {cs : Array Value} {W : List Nat} (h : SegRep w sb bb cap cs W) : w.cell? ⟨sb, 0, none⟩ = some (.slice (some ⟨bb, 0, none⟩) (8 * W.length) cap) := by
  rw [cell_of_heap h.seg]; rfl
theorem SegRep.lt {w : World} {sb bb cap : Nat} {cs : Array Value} {W : List Nat} (h : SegRep w sb bb cap cs W) : sb < w.heap.size := lt_of_heap h.seg
theorem SegRep.lt' {w : World} {sb bb cap : Nat} {cs : Array Value} {W : List Nat} (h : SegRep w sb bb cap cs W) : bb < w.heap.size := lt_of_heap h.bytes

set_option maxHeartbeats 400000 in
theorem size_nil (w : World) :
    Calls Try.prog 58 #[.pointer none] w fun e w' => e = .returned (.int .u64 0) ∧ w = w' := by
  go_enter Try.func58, Try.ntmps58
  go_wp2
  go_ret
  exact ⟨rfl, rfl⟩

set_option maxHeartbeats 400000 in
theorem size_some (b : Nat) (a : Option Addr) (n c : Nat) (w : World) (h : w.cell? ⟨b, 0, none⟩ = some (.slice a n c)) (hn : n < 18446744073709551616) :
    Calls Try.prog 58 #[.pointer (some ⟨b, 0, none⟩)] w fun e w' => e = .returned (.int .u64 n) ∧ w = w' := by
  go_enter Try.func58, Try.ntmps58
  go_wp2
  go_ret
  exact ⟨rfl, rfl⟩

set_option maxHeartbeats 400000 in
theorem in_some (b : Nat) (a : Option Addr) (n c : Nat) (w : World) (h : w.cell? ⟨b, 0, none⟩ = some (.slice a n c)) (hn : n < 18446744073709551616)
   (off : Int) (h0 : 0 ≤ off) (h1 : off < 18446744073709551616) :
    Calls Try.prog 145 #[.pointer (some ⟨b, 0, none⟩), .int .u64 off] w fun e w' => e = .returned (.bool (decide (off % 8 = 0 ∧ off < n))) ∧ w = w' := by
  by_cases hm : off % 8 = 0
  · go_enter Try.func145, Try.ntmps145
    go_wp2_with (go_at_call 58; refine (size_some b a n c _ h hn).mono ?_; rintro e w' ⟨rfl, rfl⟩)
    go_ret
    exact ⟨by simp [hm], rfl⟩
  · go_enter Try.func145, Try.ntmps145
    go_wp2_with (go_at_call 58; refine (size_some b a n c _ h hn).mono ?_; rintro e w' ⟨rfl, rfl⟩)
    go_ret
    exact ⟨by simp [hm], rfl⟩

theorem in_ok {w : World} {sb bb cap : Nat} {cs : Array Value} {W : List Nat} (h : SegRep w sb bb cap cs W) (off : Nat) (hm : off % 8 = 0) (hlt : off / 8 < W.length) :
    Calls Try.prog 145 #[.pointer (some ⟨sb, 0, none⟩), .int .u64 off] w fun e w' => e = .returned (.bool true) ∧ w = w' := by
  have hs := h.small
  refine (in_some sb _ _ _ w h.head (by omega) off (by omega) (by omega)).mono ?_
  rintro e w' ⟨rfl, rfl⟩
  refine ⟨?_, rfl⟩
  rw [decide_eq_true (by omega)]

theorem in_bad {w : World} {sb bb cap : Nat} {cs : Array Value} {W : List Nat} (h : SegRep w sb bb cap cs W) (off : Nat) (ho : off < 18446744073709551616) (hm : ¬ (off % 8 = 0 ∧ off / 8 < W.length)) :
    Calls Try.prog 145 #[.pointer (some ⟨sb, 0, none⟩), .int .u64 off] w fun e w' => e = .returned (.bool false) ∧ w = w' := by
  have hs := h.small
  refine (in_some sb _ _ _ w h.head (by omega) off (by omega) (by omega)).mono ?_
  rintro e w' ⟨rfl, rfl⟩
  refine ⟨?_, rfl⟩
  rw [decide_eq_false (by omega)]

set_option maxHeartbeats 400000 in
theorem backward (a : Option Addr) (n c : Nat) (w : World) :
    Calls Try.prog 147 #[.slice a n c] w fun e w' => e = .returned (.func (.func 182) #[] #[.pointer (some ⟨w.heap.size, 0, none⟩)]) ∧ w.alloc (.cells #[.slice a n c] 30) = w' := by
  go_enter Try.func147, Try.ntmps147
  go_wp2
  go_ret
  exact ⟨rfl, rfl⟩

attribute [local go_sem] Oper.semAt_some wide_fn wide_depth wide_in_fn wide_in_depth

set_option maxRecDepth 100000 in
set_option maxHeartbeats 1000000 in
theorem backward_iter (B b off n c : Nat) (f : Nat → Nat) (w : World) (hn : n ≤ 140737488351232) (hB : w.cell? ⟨B, 0, none⟩ = some (.slice (some ⟨b, off, none⟩) n c))
    (hc : ∀ j, j < n → w.cell? ⟨b, off + j, none⟩ = some (.int .u8 (f j))) :
    Iter Try.prog 182 #[.pointer (some ⟨B, 0, none⟩)] n (fun i => #[.int .i64 ((n : Int) - 1 - i), .int .u8 (f (n - 1 - i))]) (fun k => k = B ∨ k = b) w := by
  intro l J Jx W hWz hT hJ hY hJx h0
  refine callsIn_of_wp Try.func182 rfl trivial ?_ rfl
  simp only [Try.ntmps182, List.size_toArray, List.length_cons, List.length_nil, Nat.reduceAdd, Nat.reduceSub, Array.replicate_succ, Array.replicate_zero, List.push_toArray, List.append_toArray, List.nil_append, List.cons_append]
  have hBW : W.cell? ⟨B, 0, none⟩ = some (.slice (some ⟨b, off, none⟩) n c) := (World.cell?_of_block (hT B (.inl rfl))).trans hB
  gi_wp2
  gi_loopw [3] (fun i wr => ∃ k : Nat, k ≤ n ∧ i = .int .i64 ((n : Int) - 1 - k) ∧ J k wr ∧ (∀ x, (x = B ∨ x = b) → wr.heap[x]? = w.heap[x]?))
    (fun i _ => ((intOf i) + 1).toNat)
  case atStart => exact ⟨0, Nat.zero_le _, by simp, h0, hT⟩
  case round =>
    obtain ⟨k, hk, rfl, hJs, hTr⟩ := hrel
    have hBr : wr.cell? ⟨B, 0, none⟩ = some (.slice (some ⟨b, off, none⟩) n c) := (World.cell?_of_block (hTr B (.inl rfl))).trans hB
    by_cases hlt : k < n
    · obtain ⟨fn, tmps, assign, body, hy, hR⟩ := hY k wr hlt hJs
      have hcx : wr.cell? ⟨b, off + (n - 1 - k), none⟩ = some (.int .u8 (f (n - 1 - k))) :=
        (World.cell?_of_block (hTr b (.inr rfl))).trans (hc _ (by omega))
      gi_wp2
      refine hR.mono ?_
      rintro e W3 ⟨hz3, hT3, (⟨rfl, hJ3⟩ | ⟨rfl, hJx3⟩)⟩
      · gi_wp2
        go_roundw
        case rel => exact ⟨k + 1, by omega, by congr 1; omega, hJ3, fun x hx => (hT3 x hx).trans (hTr x hx)⟩
        case measure => simp [intOf]; omega
      · gi_wp2
        refine bodyPost_ret (results_none rfl _ _ _) rfl ?_
        exact ⟨⟨_, rfl⟩, .inr ⟨k, hlt, hJx3⟩⟩
    · obtain rfl : k = n := by omega
      gi_wp2
      go_end0
      exact ⟨⟨_, rfl⟩, .inl hJs⟩


end Go.Proofs.Ck

namespace Go.Proofs.Ck
open Go Go.RowKit
attribute [local go_sem] Oper.semAt_some wide_fn wide_depth wide_in_fn wide_in_depth

set_option maxRecDepth 100000 in
theorem or_byte (x b : Nat) (hb : b < 256) (h : x * 256 + b < 18446744073709551616) : bits .or .u64 ((x : Int) * 256) (b : Int) = ((x * 256 + b : Nat) : Int) := by
  have e : ((x : Int) * 256) = ((x * 256 : Nat) : Int) := by omega
  rw [e, u64_or_nat _ _ (by omega) (by omega)]
  congr 1
  have := Nat.two_pow_add_eq_or_of_lt (i := 8) (b := b) (by omega) x
  rw [Nat.mul_comm x 256]
  exact this.symm

theorem fold_step (V i : Nat) : V / 256 ^ (i + 1) * 256 + byteOf V i = V / 256 ^ i := by
  unfold byteOf
  rw [Nat.pow_succ, ← Nat.div_div_eq_div_mul]
  omega

theorem byteOf_lt (V i : Nat) : byteOf V i < 256 := Nat.mod_lt _ (by omega)

theorem getD_mem {W : List Nat} {i : Nat} (h : i < W.length) : W.getD i 0 ∈ W := by
  rw [List.getD_eq_getElem?_getD, List.getElem?_eq_getElem h]
  exact List.getElem_mem _

set_option maxRecDepth 100000 in
set_option maxHeartbeats 1000000 in
theorem load_ok {w : World} {sb bb cap : Nat} {cs : Array Value} {W : List Nat} (h : SegRep w sb bb cap cs W) (off : Nat) (hm : off % 8 = 0) (hlt : off / 8 < W.length) :
    Calls Try.prog 57 #[.pointer (some ⟨sb, 0, none⟩), .int .u64 off] w fun e w' => e = .returned (.tuple #[.int .u64 ((W.getD (off / 8) 0 : Nat) : Int), .int .i64 0]) ∧ Grow w w' := by
  have hs := h.small
  have hle := h.le
  have hcp := h.capLe
  have hhead := h.head
  have hsb := h.lt
  refine calls_of_range Try.func57 rfl ?_
  simp only [Try.ntmps57, List.size_toArray, List.length_cons, List.length_nil, Nat.reduceAdd, Nat.reduceSub, Array.replicate_succ, Array.replicate_zero, List.push_toArray, List.append_toArray, List.nil_append, List.cons_append]
  gi_wp2_with (first
    | (gi_at_call 145; refine (ranged (in_ok h off hm hlt)).mono ?_; rintro e w' ⟨rfl, rfl⟩)
    | (gi_at_call 147; refine (ranged (backward _ _ _ _)).mono ?_; rintro e w' ⟨rfl, rfl⟩))
  have hV := h.words (W.getD (off / 8) 0) (getD_mem hlt)
  generalize hVd : W.getD (off / 8) 0 = V at hV ⊢
  have hg0 : Grow w ((w.alloc (Obj.cells #[Value.int IntKind.u64 0] 22)).alloc (Obj.cells #[Value.slice (some { block := bb, off := off }) 8 (cap - off)] 30)) :=
    ((Below.refl _ w).alloc (Nat.le_refl _) _).alloc (by simp) _
  have hbox0 : ((w.alloc (Obj.cells #[Value.int IntKind.u64 0] 22)).alloc (Obj.cells #[Value.slice (some { block := bb, off := off }) 8 (cap - off)] 30)).heap[w.heap.size]? = some (.cells #[Value.int IntKind.u64 0] 22 (0, 0)) :=
    (Below.heap_alloc _ _ _ (by simp)).trans (World.alloc_heap_new w _)
  have hbox1 : ((w.alloc (Obj.cells #[Value.int IntKind.u64 0] 22)).alloc (Obj.cells #[Value.slice (some { block := bb, off := off }) 8 (cap - off)] 30)).heap[w.heap.size + 1]? = some (.cells #[Value.slice (some { block := bb, off := off }) 8 (cap - off)] 30 (0, 0)) := by
    have := World.alloc_heap_new (w.alloc (Obj.cells #[Value.int IntKind.u64 0] 22)) (Obj.cells #[Value.slice (some { block := bb, off := off }) 8 (cap - off)] 30); rwa [World.size_alloc] at this
  have hbb := h.lt'
  have hcells : ∀ j, j < 8 → ((w.alloc (Obj.cells #[Value.int IntKind.u64 0] 22)).alloc (Obj.cells #[Value.slice (some { block := bb, off := off }) 8 (cap - off)] 30)).cell? ⟨bb, off + j, none⟩ = some (.int .u8 ((byteOf V j : Nat) : Int)) := by
    intro j hj
    rw [cell_of_heap (hg0.heap h.bytes), h.cell _ (by omega)]
    have e1 : (off + j) / 8 = off / 8 := by omega
    have e2 : (off + j) % 8 = j := by omega
    rw [segByte, e1, e2, hVd]
  generalize hW2 : ((w.alloc (Obj.cells #[Value.int IntKind.u64 0] 22)).alloc (Obj.cells #[Value.slice (some { block := bb, off := off }) 8 (cap - off)] 30)) = W2 at hg0 hbox0 hbox1 hcells ⊢
  have hz2 : W2.heap.size = w.heap.size + 2 := by rw [← hW2]; simp
  clear hW2
  refine wp_range (gf := 182) (lb := #[.pointer (some ⟨w.heap.size + 1, 0, none⟩)]) rfl (fun args w => Try.call182 args w)
    (backward_iter (w.heap.size + 1) bb off 8 (cap - off) (byteOf V) W2 (by omega) (by rw [cell_of_heap hbox1]; rfl) hcells)
    (by rintro b (rfl | rfl) <;> omega) (fun _ => rfl)
    (fun i X => X.heap[w.heap.size]? = some (.cells #[.int .u64 ((V / 256 ^ (8 - i) : Nat) : Int)] 22 (0, 0)) ∧ Grow w X)
    (fun _ _ _ => False)
    (fun i A B hs hm => ⟨hm.heap hs.1, hm.below hs.2 (by omega) hs.2.size⟩) (fun _ _ _ _ hs _ => hs)
    ⟨by rw [hbox0, Nat.div_eq_of_lt (show V < 256 ^ (8 - 0) from hV)]; rfl, hg0⟩
    (fun i => { tmps := #[Value.pointer (some { block := sb, off := 0 }), Value.int IntKind.u64 ↑off, undef, undef,
          Value.int IntKind.u64 0, Value.int IntKind.i64 0, Value.pointer (some { block := w.heap.size, off := 0 }),
          undef, .int .u8 ((byteOf V (8 - 1 - i) : Nat) : Int), Value.pointer (some { block := sb, off := 0 }), Value.int IntKind.u64 ↑off, Value.bool true,
          Value.bool false, Value.pointer (some { block := sb, off := 0 }),
          Value.pointer (some { block := sb, off := 0 }), Value.pointer (some { block := sb, off := 0 }),
          Value.slice (some { block := bb, off := 0 }) (8 * W.length) cap, Value.int IntKind.u64 ↑off,
          Value.int IntKind.u64 ↑off, Value.int IntKind.u64 (↑off + 8),
          Value.slice (some { block := bb, off := off }) 8 (cap - off),
          Value.func (Fn.func 182) #[] #[Value.pointer (some { block := w.heap.size + 1, off := 0 })], .int .i64 (((8 : Nat) : Int) - 1 - i), .int .u8 ((byteOf V (8 - 1 - i) : Nat) : Int),
          undef, undef, undef, undef, undef, undef], defers := [] }) ?assign ?body ?done ?stop
  case assign =>
    intro l i X K hK
    gi_wp2
    exact hK
  case body =>
    rintro l i X hi ⟨hb, hg⟩
    have hlt0 := byteOf_lt V (8 - 1 - i)
    have hst : V / 256 ^ (8 - i) * 256 + byteOf V (8 - 1 - i) = V / 256 ^ (8 - (i + 1)) := by
      have := fold_step V (8 - 1 - i)
      rw [show 8 - 1 - i + 1 = 8 - i from by omega] at this
      rw [this]; congr 2; omega
    have hnx : V / 256 ^ (8 - (i + 1)) < 18446744073709551616 := Nat.lt_of_le_of_lt (Nat.div_le_self _ _) hV
    generalize byteOf V (8 - 1 - i) = c at hlt0 hst ⊢
    generalize V / 256 ^ (8 - i) = x at hst hb
    have hc0 : X.cell? ⟨w.heap.size, 0, none⟩ = some (.int .u64 (x : Int)) := by rw [cell_of_heap hb]; rfl
    have hf0 : X.frozen? ⟨w.heap.size, 0, none⟩ = false := frozen_of_heap hb 0
    have hxs : x * 256 + c < 18446744073709551616 := by omega
    have H := Lib.hid hst; clear hst hnx
    gi_wp2
    rw [or_byte _ _ hlt0 hxs, H.out]
    have hb' : Boxed X w.heap.size 22 (.int .u64 (x : Int)) := hb
    exact ⟨(Held.refl _ _).setCell (by simp; omega) _, hb'.set _, hg.setCell (Nat.le_refl _) _⟩
  case done =>
    rintro D X hD ⟨hb, hg⟩ hK
    have hc0 : X.cell? ⟨w.heap.size, 0, none⟩ = some (.int .u64 (V : Int)) := by rw [cell_of_heap hb]; simp
    gi_wp2
    refine marks_ret hK (results_tmp2 rfl _ _ _) ⟨by rw [hVd]; rfl, ?_⟩
    exact (Mild.putObj (n := w.heap.size) _ (by omega) hK rfl).below hg (Nat.le_refl _) hg.size
  case stop =>
    rintro D c i X _ _ h _
    exact h.elim
end Go.Proofs.Ck

namespace Go.Proofs.Ck
open Go Go.RowKit

theorem byteOf_int (v i : Nat) : ((byteOf v i : Nat) : Int) = (v : Int) / 2 ^ (8 * i) % 256 := by
  have e : (256 : Nat) ^ i = 2 ^ (8 * i) := by rw [Nat.pow_mul]
  unfold byteOf
  rw [e]
  simp only [Int.natCast_emod, Int.natCast_ediv, Int.natCast_pow]
  rfl

set_option maxHeartbeats 400000 in
theorem store1 (w : World) (B v i : Nat) (_hv : v < 18446744073709551616) (hi : i < 8) (hB : w.cell? ⟨B, 0, none⟩ = some (.int .u64 (v : Int))) :
    Calls Try.prog 146 #[.int .i64 (i : Int), .pointer (some ⟨B, 0, none⟩)] w fun e w' => e = .returned (.int .u8 ((byteOf v i : Nat) : Int)) ∧ w = w' := by
  go_enter Try.func146, Try.ntmps146
  go_wp2
  go_ret
  refine ⟨?_, rfl⟩
  show Ending.returned (Value.int IntKind.u8 ((v : Int) / 2 ^ (8 * i) % 256)) = _
  congr 2
  exact (byteOf_int v i).symm

theorem SegRep.moved {w w' : World} {sb bb cap : Nat} {cs : Array Value} {W : List Nat} (h : SegRep w sb bb cap cs W) (h1 : w'.heap[sb]? = w.heap[sb]?) (h2 : w'.heap[bb]? = w.heap[bb]?) : SegRep w' sb bb cap cs W :=
  ⟨h1.trans h.seg, h2.trans h.bytes, h.size, h.le, h.capLe, h.small, h.cell, h.words⟩
theorem SegRep.grow {w w' : World} {sb bb cap : Nat} {cs : Array Value} {W : List Nat} (h : SegRep w sb bb cap cs W) (hg : Grow w w') : SegRep w' sb bb cap cs W :=
  h.moved (hg.block _ h.lt) (hg.block _ h.lt')
theorem SegRep.ne {w : World} {sb bb cap : Nat} {cs : Array Value} {W : List Nat} (h : SegRep w sb bb cap cs W) : sb ≠ bb := by
  rintro rfl
  have := h.seg.symm.trans h.bytes
  simp at this

set_option maxRecDepth 100000 in
set_option maxHeartbeats 1000000 in
theorem store_ok {w : World} {sb bb cap : Nat} {cs : Array Value} {W : List Nat} (h : SegRep w sb bb cap cs W) (off v : Nat) (hm : off % 8 = 0) (hlt : off / 8 < W.length) (hv : v < 18446744073709551616) :
    Calls Try.prog 56 #[.pointer (some ⟨sb, 0, none⟩), .int .u64 off, .int .u64 v] w fun e w' => e = .returned (.int .i64 0) ∧ (∃ cs', SegRep w' sb bb cap cs' (W.set (off / 8) v)) ∧ Only (· = bb) w w' := by
  have hs := h.small
  have hle := h.le
  have hcp := h.capLe
  have hhead := h.head
  have hsb := h.lt
  have hbb := h.lt'
  go_enter Try.func56, Try.ntmps56
  go_wp2_with (go_at_call 145; refine (in_ok (h.grow ((Below.refl _ w).alloc (Nat.le_refl _) _)) off hm hlt).mono ?_; rintro e w' ⟨rfl, rfl⟩)
  have hg0 : Grow w (w.alloc (Obj.cells #[Value.int IntKind.u64 ↑v] 22)) := (Below.refl _ w).alloc (Nat.le_refl _) _
  have hbx : (w.alloc (Obj.cells #[Value.int IntKind.u64 ↑v] 22)).heap[w.heap.size]? = some (.cells #[.int .u64 (v : Int)] 22 (0, 0)) := World.alloc_heap_new w _
  have hne := h.ne
  go_loopw [14] (fun i wr => ∃ k : Nat, k ≤ 8 ∧ i = .int .i64 (k : Int) ∧ Only (· = bb) w wr ∧ wr.heap[w.heap.size]? = some (.cells #[.int .u64 (v : Int)] 22 (0, 0)) ∧
      (∃ c : Array Value, wr.heap[bb]? = some (.cells c 5 (0, 0)) ∧ c.size = cap ∧ (∀ j, j < 8 * W.length → c[j]? = some (.int .u8 ((if off ≤ j ∧ j < off + k then byteOf v (j - off) else segByte W j : Nat) : Int)))))
    (fun i _ => 8 - (intOf i).toNat)
  case atStart => exact ⟨0, by omega, rfl, .of_below hg0, hbx, cs, hg0.heap h.bytes, h.size, fun j hj => by rw [if_neg (by omega)]; exact h.cell j hj⟩
  case round =>
    obtain ⟨k, hk, rfl, ho, hbr, c, hc, hcz, hcell⟩ := hrel
    by_cases hlt8 : k < 8
    · have hh : wr.cell? ⟨sb, 0, none⟩ = some (.slice (some ⟨bb, 0, none⟩) (8 * W.length) cap) := by
        rw [cell_of_heap (ho.heap h.seg hne)]; rfl
      have hbc : wr.cell? ⟨w.heap.size, 0, none⟩ = some (.int .u64 (v : Int)) := by rw [cell_of_heap hbr]; rfl
      have hjc := hcell (off + k) (by omega)
      go_wp2
      go_still_tail 11, (by kernel_rfl)
      still_call (sames (store1 wr.drew w.heap.size v k hv hlt8 hbc))
      refine wpStill_nil ?_
      change wpList _ _ _ _ _ wr.drew
      have ho' : Only (· = bb) w wr.drew := ho.drew
      have hbr' : wr.drew.heap[w.heap.size]? = some (.cells #[.int .u64 (v : Int)] 22 (0, 0)) := hbr
      have hc' : wr.drew.heap[bb]? = some (.cells c 5 (0, 0)) := hc
      clear ho hbr hc hh hbc
      generalize wr.drew = w2 at ho' hbr' hc' ⊢
      have hcj : w2.cell? ⟨bb, off + k, none⟩ = some (.int .u8 ((segByte W (off + k) : Nat) : Int)) := by
        rw [cell_of_heap hc', hjc, if_neg (by omega)]
      have hfj : w2.frozen? ⟨bb, off + k, none⟩ = false := frozen_of_heap hc' _
      clear hjc
      go_wp2
      go_roundw
      case rel =>
        refine ⟨k + 1, by omega, by go_num, ho'.setCell rfl _, ?_, c.setIfInBounds (off + k) (.int .u8 ((byteOf v k : Nat) : Int)), heap_setCell_row hc' _, by simpa using hcz, fun j hj => ?_⟩
        · rw [Below.heap_setCell _ _ _ _ (by simp; omega)]; exact hbr'
        · rw [Array.getElem?_setIfInBounds]
          by_cases e : off + k = j
          · subst e
            rw [if_pos rfl, if_pos (by omega), if_pos (by omega)]
            congr 4; omega
          · rw [if_neg e, hcell j hj]
            by_cases hj2 : off ≤ j ∧ j < off + k
            · rw [if_pos hj2, if_pos (by omega)]
            · rw [if_neg hj2, if_neg (by omega)]
      case measure => simp [intOf]; omega
    · obtain rfl : k = 8 := by omega
      go_wp2
      go_ret
      refine ⟨rfl, ⟨c, (ho.heap h.seg hne).trans (by simp), hc, hcz, by simpa using hle, hcp, by simpa using hs, fun j hj => ?_, fun x hx => ?_⟩, ho⟩
      · rw [hcell j (by simpa using hj)]
        congr 3
        by_cases hj2 : off ≤ j ∧ j < off + 8
        · rw [if_pos hj2]
          have e1 : j / 8 = off / 8 := by omega
          have e2 : j % 8 = j - off := by omega
          simp [segByte, e1, e2, List.getD_eq_getElem?_getD, hlt]
        · rw [if_neg hj2]
          have e1 : off / 8 ≠ j / 8 := by omega
          simp [segByte, List.getD_eq_getElem?_getD, List.getElem?_set_ne e1]
      · rcases List.mem_or_eq_of_mem_set hx with hx | rfl
        · exact h.words x hx
        · exact hv
end Go.Proofs.Ck

namespace Go.Proofs.Ck
open Go Go.RowKit

def u64s (W : List Nat) : List Value := W.map fun (x : Nat) => Value.int .u64 (x : Int)
theorem u64s_get {W : List Nat} {i : Nat} (h : i < W.length) : (u64s W)[i]? = some (.int .u64 ((W.getD i 0 : Nat) : Int)) := by
  simp [u64s, List.getD_eq_getElem?_getD, h]
theorem u64s_one (W : List Nat) : ∀ u ∈ u64s W, u.oneCell' = true := by
  intro u hu
  obtain ⟨x, _, rfl⟩ := List.mem_map.1 hu
  rfl

/-- A slice of words. -/
abbrev Nums (S : Nat → Prop) (w : World) (A : Option Addr) (W : List Nat) : Prop := Row S w A W.length 1 (u64s W)

theorem info22 : (Try.prog.info? 22).map (fun i => (i.zero, i.size, i.bytes)) = some (some (.int .u64 0), 1, 8) := by kernel_rfl

set_option maxHeartbeats 400000 in
theorem rin_ok (A : Option Addr) (n c off : Nat) (w : World) (hm : off % 8 = 0) (hlt : off / 8 < n) (hn : n < 9223372036854775808) :
    Calls Try.prog 181 #[.slice A n c, .int .u64 (off : Int)] w fun e w' => e = .returned (.bool true) ∧ w = w' := by
  have h1 : decide (off / 8 < n) = true := decide_eq_true hlt
  go_enter Try.func181, Try.ntmps181
  go_wp2
  all_goals (go_ret; refine ⟨?_, rfl⟩; simp)
  all_goals first | omega | skip

set_option maxHeartbeats 400000 in
theorem rin_bad (A : Option Addr) (n c off : Nat) (w : World) (ho : off < 18446744073709551616) (hm : ¬ (off % 8 = 0 ∧ off / 8 < n)) (hn : n < 9223372036854775808) :
    Calls Try.prog 181 #[.slice A n c, .int .u64 (off : Int)] w fun e w' => e = .returned (.bool false) ∧ w = w' := by
  by_cases h0 : off % 8 = 0
  · have hlt : ¬ off / 8 < n := fun h => hm ⟨h0, h⟩
    go_enter Try.func181, Try.ntmps181
    go_wp2
    all_goals (go_ret; refine ⟨?_, rfl⟩; simp)
    all_goals first | omega | skip
  · go_enter Try.func181, Try.ntmps181
    go_wp2
    all_goals (go_ret; refine ⟨?_, rfl⟩; simp)
    all_goals first | omega | skip

set_option maxHeartbeats 400000 in
theorem rload_ok {S : Nat → Prop} {A : Option Addr} {c : Nat} {W : List Nat} {w : World} (h : Nums S w A W) (off : Nat) (hm : off % 8 = 0) (hlt : off / 8 < W.length) (hn : W.length < 9223372036854775808) :
    Calls Try.prog 188 #[.slice A W.length c, .int .u64 (off : Int)] w fun e w' => e = .returned (.tuple #[.int .u64 ((W.getD (off / 8) 0 : Nat) : Int), .int .i64 0]) ∧ w = w' := by
  obtain ⟨b, o, rfl, _, hc⟩ := h.pos (by omega) (by omega)
  have hcx := hc (off / 8) _ (u64s_get hlt)
  clear hc h
  generalize W.getD (off / 8) 0 = V at *
  go_enter Try.func188, Try.ntmps188
  go_wp2_with (go_at_call 181; refine (rin_ok _ _ _ off _ hm hlt hn).mono ?_; rintro e w' ⟨rfl, rfl⟩)
  go_ret2
  exact ⟨rfl, rfl⟩

set_option maxHeartbeats 400000 in
theorem rload_bad (A : Option Addr) (n c off : Nat) (w : World) (ho : off < 18446744073709551616) (hm : ¬ (off % 8 = 0 ∧ off / 8 < n)) (hn : n < 9223372036854775808) :
    Calls Try.prog 188 #[.slice A n c, .int .u64 (off : Int)] w fun e w' => e = .returned (.tuple #[.int .u64 0, .int .i64 1]) ∧ w = w' := by
  go_enter Try.func188, Try.ntmps188
  go_wp2_with (go_at_call 181; refine (rin_bad _ _ _ off _ ho hm hn).mono ?_; rintro e w' ⟨rfl, rfl⟩)
  go_ret2
  exact ⟨rfl, rfl⟩

set_option maxHeartbeats 400000 in
theorem rstore_bad (A : Option Addr) (n c off v : Nat) (w : World) (ho : off < 18446744073709551616) (hm : ¬ (off % 8 = 0 ∧ off / 8 < n)) (hn : n < 9223372036854775808) :
    Calls Try.prog 141 #[.slice A n c, .int .u64 (off : Int), .int .u64 (v : Int)] w fun e w' => e = .returned (.tuple #[.slice A n c, .int .i64 1]) ∧ w = w' := by
  go_enter Try.func141, Try.ntmps141
  go_wp2_with (go_at_call 181; refine (rin_bad _ _ _ off _ ho hm hn).mono ?_; rintro e w' ⟨rfl, rfl⟩)
  go_ret2
  exact ⟨rfl, rfl⟩

theorem u64s_set (W : List Nat) (i v : Nat) : u64s (W.set i v) = (u64s W).set i (.int .u64 (v : Int)) := by simp [u64s, List.map_set]

set_option maxRecDepth 100000 in
set_option maxHeartbeats 1000000 in
theorem rstore_ok {S : Nat → Prop} {A : Option Addr} {c : Nat} {W : List Nat} {w : World} (h : Nums S w A W) (off v : Nat) (hm : off % 8 = 0) (hlt : off / 8 < W.length) (hn : W.length ≤ 17592186044416) :
    Calls Try.prog 141 #[.slice A W.length c, .int .u64 (off : Int), .int .u64 (v : Int)] w fun e w' =>
      (∃ g c', e = .returned (.tuple #[.slice (some ⟨g, 0, none⟩) W.length c', .int .i64 0]) ∧ Nums (fun b => w.heap.size ≤ b) w' (some ⟨g, 0, none⟩) (W.set (off / 8) v)) ∧ Grow w w' := by
  obtain ⟨b, o, rfl, _, hc⟩ := h.pos (by omega) (by omega)
  obtain ⟨i22, hi, hz, hs, hb⟩ := info_parts info22
  have hg0 : Grow w (w.alloc (Obj.cells #[] 22)) := (Below.refl _ w).alloc (Nat.le_refl _) _
  go_enter Try.func141, Try.ntmps141
  go_wp2_with (first
    | (go_at_call 181; refine (rin_ok _ _ _ off _ hm hlt (by omega)).mono ?_; rintro e w' ⟨rfl, rfl⟩)
    | (at_builtin; refine wpList_append_row (S := S) _ rfl (.tmp 14) (.tmp 15) 27 rfl w.heap.size 22 i22 (.int .u64 0) 1 8 Try.underlying27 hi hz hs hb rfl (by decide) _ 0 [] rfl (World.ownsRow_made w #[] 0 (Nat.le_refl _) (Nat.zero_le _) rfl) _ _ _ (u64s W) rfl (h.grow hg0) (fun x => by cases x) (u64s_one W) (by unfold maxLen; omega) (by omega) (by simp) ?_))
  intro v' w1 hown ho
  replace hown : w1.ownsRow w.heap.size 22 1 v' W.length (u64s W) := by simpa using hown
  have hg1 : Grow w w1 := (Only.below ((Only.of_below hg0).trans ho) (Nat.le_refl _) (fun k hk => by simp [Value.ownBlock] at hk; omega))
  obtain ⟨g, cap, cur, hv, hbg, hgc, hcap, hcm, hcz, hcur⟩ := own_form hown (by omega)
  rw [hv]
  clear hown ho hc h
  have hcx : w1.cell? ⟨g, off / 8, none⟩ = some (.int .u64 ((W.getD (off / 8) 0 : Nat) : Int)) := by
    rw [cell_of_heap hgc]; exact hcur _ _ (u64s_get hlt)
  have hfx : w1.frozen? ⟨g, off / 8, none⟩ = false := frozen_of_heap hgc _
  clear hg0
  have H := Lib.hid hcur; clear hcur
  generalize W.getD (off / 8) 0 = V at hcx
  go_wp2
  go_ret2
  refine ⟨⟨g, cap, rfl, ?_⟩, hg1.setCell hbg _⟩
  have hset := heap_setCell_row (i := off / 8) hgc (.int .u64 (v : Int))
  have hl : (W.set (off / 8) v).length = W.length := by simp
  rw [Nums, hl, u64s_set]
  refine Row.of_block hset hbg (by simp [u64s]) fun j u hj => ?_
  rw [Array.getElem?_setIfInBounds]
  rw [List.getElem?_set] at hj
  by_cases e : off / 8 = j
  · rw [if_pos e] at hj ⊢
    rw [if_pos (by omega)]
    split at hj
    · exact hj
    · cases hj
  · rw [if_neg e] at hj ⊢
    exact H.out j u hj

end Go.Proofs.Ck

namespace Go.Proofs.Ck
open Go Go.RowKit

theorem info5 : (Try.prog.info? 5).map (fun i => (i.zero, i.size, i.bytes)) = some (some (.int .u8 0), 1, 1) := by kernel_rfl

set_option maxHeartbeats 400000 in
theorem may_ok (size : Nat) (w : World) (h0 : 0 < size) (hm : size % 8 = 0) (hl : size ≤ 1048576) :
    Calls Try.prog 43 #[.int .u64 (size : Int)] w fun e w' => e = .returned (.bool true) ∧ w = w' := by
  go_enter Try.func43, Try.ntmps43
  go_wp2
  all_goals (go_ret; refine ⟨?_, rfl⟩; simp)
  all_goals first | omega | skip

set_option maxRecDepth 100000 in
set_option maxHeartbeats 1000000 in
theorem rnew_ok (size : Nat) (w : World) (h0 : 0 < size) (hm : size % 8 = 0) (hl : size ≤ 1048576) :
    Calls Try.prog 140 #[.int .u64 (size : Int)] w fun e w' => ∃ g, (e = .returned (.slice (some ⟨g, 0, none⟩) (size / 8) (size / 8)) ∧ w'.ownsRow w.heap.size 22 1 (.slice (some ⟨g, 0, none⟩) (size / 8) (size / 8)) (size / 8) (u64s (List.replicate (size / 8) 0))) ∧ Grow w w' := by
  obtain ⟨i22, hi, hz, hs, hb⟩ := info_parts info22
  go_enter Try.func140, Try.ntmps140
  go_wp2_with (first
    | (go_at_call 43; refine (may_ok _ _ h0 hm hl).mono ?_; rintro e w' ⟨rfl, rfl⟩)
    | (at_make; refine wpList_make_full _ rfl _ _ 27 rfl w.heap.size 22 i22 (.int .u64 0) 1 Try.underlying27 hi hz hs .u64 .u64 _ _ (size / 8) rfl rfl (by simp [go_sem]) (by simp [go_sem]) (by rw [hb]; omega) (by unfold maxLen; omega) (Nat.le_refl _) ?_))
  intro w1 hown hg
  go_wp2
  go_ret
  refine ⟨_, ⟨rfl, ?_⟩, ?_⟩
  · rw [toList_madeCells_one] at hown
    simpa [u64s] using hown
  · exact (only_of_grown hg).below (Nat.le_refl _) (fun _ h => by cases h)

theorem segByte_zero (n j : Nat) : segByte (List.replicate n 0) j = 0 := by
  have h : ∀ i, (List.replicate n 0).getD i 0 = 0 := by
    intro i
    rw [List.getD_eq_getElem?_getD, List.getElem?_replicate]
    split <;> rfl
  simp only [segByte, byteOf, h]
  simp

set_option maxRecDepth 100000 in
set_option maxHeartbeats 1000000 in
theorem snew_ok (size : Nat) (w : World) (h0 : 0 < size) (hm : size % 8 = 0) (hl : size ≤ 1048576) :
    Calls Try.prog 139 #[.int .u64 (size : Int)] w fun e w' => (∃ sb bb cs, e = .returned (.pointer (some ⟨sb, 0, none⟩)) ∧ SegRep w' sb bb size cs (List.replicate (size / 8) 0) ∧ w.heap.size ≤ sb ∧ w.heap.size ≤ bb) ∧ Grow w w' := by
  obtain ⟨i5, hi, hz, hs, hb⟩ := info_parts info5
  have hz0 : ((size : Int) == 0) = false := by simp; omega
  go_enter Try.func139, Try.ntmps139
  go_wp2_with (at_make; refine wpList_make_full _ rfl _ _ 30 rfl w.heap.size 5 i5 (.int .u8 0) 1 Try.underlying30 hi hz hs .u64 .u64 _ _ size rfl rfl (by simp [go_sem]) (by simp [go_sem]) (by rw [hb]; omega) (by unfold maxLen; omega) (Nat.le_refl _) ?_)
  intro w1 hown hg
  rw [toList_madeCells_one] at hown
  have hb1 : Below w.heap.size w w1 := (only_of_grown hg).below (Nat.le_refl _) (fun _ h => by cases h)
  obtain ⟨g, cap, cur, hv, hbg, hgc, hcap, hcm, hcz, hcur⟩ := own_form hown h0
  have hv' := hv
  simp only [Value.slice.injEq, Option.some.injEq, Addr.mk.injEq, and_true, true_and] at hv'
  obtain ⟨rfl, rfl⟩ := hv'
  clear hown hv
  have H := Lib.hid hcur; clear hcur
  go_wp2
  go_ret
  have hg2 : Grow w1 (w1.alloc (.cells #[.slice (some ⟨w.heap.size, 0, none⟩) size size] 174)) := (Below.refl _ w1).alloc (Nat.le_refl _) _
  have e8 : 8 * (List.replicate (size / 8) 0).length = size := by simp; omega
  refine ⟨⟨w1.heap.size, w.heap.size, cur, rfl, ⟨?_, hg2.heap hgc, by simpa using hcz, by omega, by omega, by omega, fun j hj => ?_, fun x hx => ?_⟩, hb1.size, Nat.le_refl _⟩, Grow.trans hb1 hg2⟩
  · rw [e8]; exact World.alloc_heap_new w1 _
  · rw [segByte_zero]
    exact H.out j _ (by rw [List.getElem?_replicate, if_pos (by omega)]; rfl)
  · have := (List.mem_replicate.1 hx).2; omega

end Go.Proofs.Ck

namespace Go.Proofs.Ck
open Go Go.RowKit

end Go.Proofs.Ck

namespace Go.Proofs.Ck
open Go Go.RowKit

end Go.Proofs.Ck

namespace Go.Proofs.Ck
open Go Go.RowKit

theorem u64s_append (a b : List Nat) : u64s (a ++ b) = u64s a ++ u64s b := by simp [u64s]

end Go.Proofs.Ck

namespace Go.Proofs.Ck
open Go Go.RowKit

attribute [local go_sem] Oper.semAt_some wide_fn wide_depth wide_in_fn wide_in_depth

set_option maxHeartbeats 400000 in
theorem load_bad {w : World} {sb bb cap : Nat} {cs : Array Value} {W : List Nat} (h : SegRep w sb bb cap cs W) (off : Nat) (ho : off < 18446744073709551616) (hm : ¬ (off % 8 = 0 ∧ off / 8 < W.length)) :
    Calls Try.prog 57 #[.pointer (some ⟨sb, 0, none⟩), .int .u64 (off : Int)] w fun e w' => e = .returned (.tuple #[.int .u64 0, .int .i64 1]) ∧ w = w' := by
  refine calls_of_range Try.func57 rfl ?_
  simp only [Try.ntmps57, List.size_toArray, List.length_cons, List.length_nil, Nat.reduceAdd, Nat.reduceSub, Array.replicate_succ, Array.replicate_zero, List.push_toArray, List.append_toArray, List.nil_append, List.cons_append]
  gi_wp2_with (gi_at_call 145; refine (ranged (in_bad h off ho hm)).mono ?_; rintro e w' ⟨rfl, rfl⟩)
  exact marks_none (results_tmp2 rfl _ _ _) ⟨rfl, rfl⟩

/-- A segment, or nobody's: then it has no words. -/
def SegLike (w : World) (v : Value) (W : List Nat) : Prop :=
  (v = .pointer none ∧ W = []) ∨ ∃ sb bb cap cs, v = .pointer (some ⟨sb, 0, none⟩) ∧ SegRep w sb bb cap cs W
theorem size_any {w : World} {v : Value} {W : List Nat} (h : SegLike w v W) : Calls Try.prog 58 #[v] w fun e w' => e = .returned (.int .u64 ((8 * W.length : Nat) : Int)) ∧ w = w' := by
  rcases h with ⟨rfl, rfl⟩ | ⟨sb, bb, cap, cs, rfl, h⟩
  · exact (size_nil w).mono fun e w' ⟨h1, h2⟩ => ⟨by rw [h1]; rfl, h2⟩
  · exact size_some sb _ _ _ w h.head (by have := h.small; omega)
end Go.Proofs.Ck

namespace Go.Proofs.Ck
open Go Go.RowKit

end Go.Proofs.Ck

namespace Go.Proofs.Ck
open Go Go.RowKit

theorem Grow.drewN {a b : World} (h : Grow a b) (n : Nat) : Grow a (b.drewN n) := below_drewN h n
theorem take_succ_getD {l : List Nat} {k : Nat} (h : k < l.length) : l.take (k + 1) = l.take k ++ [l.getD k 0] := by
  rw [List.take_succ_eq_append_getElem h, List.getD_eq_getElem?_getD, List.getElem?_eq_getElem h]
  rfl

set_option maxRecDepth 100000 in
set_option maxHeartbeats 2000000 in
theorem rnums {S S' : Nat → Prop} {w : World} {A0 A1 : Option Addr} {c0 c1 : Nat} {W0 W1 : List Nat} (h0 : Nums S w A0 W0) (h1 : Nums S' w A1 W1) (n0 : W0.length ≤ 17592186044416) :
    Calls Try.prog 47 #[.slice A0 W0.length c0, .slice A1 W1.length c1] w fun e w' => e = .returned (.bool (decide (W0 = W1))) ∧ Grow w w' := by
  by_cases hl : W0.length = W1.length
  · have h1' : Row S' w A1 W0.length 1 (u64s W1) := hl ▸ h1
    have hll : W1.length = W0.length := hl.symm
    rw [← hl]
    have HL := Lib.hid hl
    clear h1 hl hll
    go_enter Try.func47, Try.ntmps47
    go_wp2
    go_loopw [5] (fun i wr => ∃ k : Nat, k ≤ W0.length ∧ i = .int .i64 (k : Int) ∧ Hid (W0.take k = W1.take k) ∧ Grow w wr) (fun i _ => W0.length - (intOf i).toNat)
    case atStart => exact ⟨0, Nat.zero_le _, rfl, Lib.hid (by simp), Below.refl _ _⟩
    case round =>
      obtain ⟨k, hk, rfl, ht, hg⟩ := hrel
      by_cases hlt : k < W0.length
      · obtain ⟨b, o, rfl, _, hc⟩ := (h0.grow hg).pos (by omega) (by omega)
        obtain ⟨b', o', rfl, _, hc'⟩ := (h1'.grow hg).pos (by omega) (by omega)
        have hx := hc k _ (u64s_get hlt)
        have hx' := hc' k _ (u64s_get (by have := HL.out; omega))
        clear hc hc'
        by_cases he : W0.getD k 0 = W1.getD k 0
        · rw [← he] at hx'
          generalize hV : W0.getD k 0 = V at hx hx' he
          have HE := Lib.hid he; have HV := Lib.hid hV
          clear he hV h0 h1'
          have t2 : ((V : Int) != V) = false := by simp
          go_wp2
          go_quiet (fail)
          go_wp2
          go_roundw
          case rel =>
            refine ⟨k + 1, by omega, by go_num, Lib.hid ?_, hg.drewN nq⟩
            rw [take_succ_getD hlt, take_succ_getD (by have := HL.out; omega), ht.out, HV.out, HE.out]
          case measure => simp [intOf]; omega
        · have HNE : Hid (¬ W0 = W1) := fun e => he (by rw [e])
          clear h0 h1'
          generalize W0.getD k 0 = V at hx he
          generalize W1.getD k 0 = V' at hx' he
          have t1 : ((V : Int) == V') = false := by rw [beq_eq_false_iff_ne]; omega
          have t2 : ((V : Int) != V') = true := by rw [bne_iff_ne]; omega
          go_wp2
          go_quiet (fail)
          go_wp2
          go_ret
          refine ⟨?_, hg.drewN nq⟩
          rw [decide_eq_false HNE.out]
          rfl
      · obtain rfl : k = W0.length := by omega
        go_wp2
        go_ret
        refine ⟨?_, hg⟩
        have e := ht.out
        rw [List.take_length, HL.out, List.take_length] at e
        rw [decide_eq_true e]
        rfl
  · have t1 : ((W0.length : Int) == W1.length) = false := by rw [beq_eq_false_iff_ne]; omega
    have t2 : ((W0.length : Int) != W1.length) = true := by rw [bne_iff_ne]; omega
    have hne : ¬ W0 = W1 := fun e => hl (by rw [e])
    rw [decide_eq_false hne]
    clear hne h0 h1
    go_enter Try.func47, Try.ntmps47
    go_wp2
    go_ret
    exact ⟨rfl, Below.refl _ _⟩
end Go.Proofs.Ck

namespace Go.Proofs.Ck
open Go Go.RowKit

end Go.Proofs.Ck

namespace Go.Proofs.Ck
open Go Go.RowKit

end Go.Proofs.Ck

namespace Go.Proofs.Ck
open Go Go.RowKit

end Go.Proofs.Ck

namespace Go.Proofs.Ck
open Go Go.RowKit

section
variable {P : Program} {ops : Array Oper} {md : Region.Mode} {w : World}

/-- Each operation behind n waits for one that is n, or stands behind n, and ahead of it. -/
def behindB (md : Region.Mode) (ops : Array Oper) (n : Nat) : Bool :=
  (List.range ops.size).all fun t => decide (t ≤ n) || (List.range t).any fun j => decide (n ≤ j) && Region.waitsFor md ops t j

theorem behind_waits {n : Nat} {listed : Array Bool} (hs : Region.sinkB md ops n = true) (hc : behindB md ops n = true) (hn : n < ops.size) (inv : HeadInv md ops n listed) :
    ∀ (d i : Nat), n - i = d → i < n → listed.getD i true = false → ∀ t, n ≤ t → t ∉ Region.ready md ops listed := by
  intro d
  induction d using Nat.strongRecOn with
  | _ d ih =>
    intro i hd hi hun t ht hr
    obtain ⟨_, ot, hot, hall⟩ := mem_ready.1 hr
    have htlt : t < ops.size := (Array.getElem?_eq_some_iff.1 hot).1
    by_cases htn : t = n
    · subst htn
      have h1 := List.all_eq_true.1 hs i (List.mem_range.2 hi)
      obtain ⟨j, hj, hj2⟩ := List.any_eq_true.1 h1
      simp only [Bool.and_eq_true, decide_eq_true_eq] at hj2
      obtain ⟨oj, hoj, e, he, hb, hon⟩ := Region.waitsFor_spec hj2.2
      have hjle : j ≤ t := by have := List.mem_range.1 hj; omega
      by_cases hjt : j = t
      · subst hjt
        have : oj = ot := Option.some.inj (hoj.symm.trans hot)
        subst this
        have h2 := hall e he hb
        rw [hon, getD_both hun] at h2
        cases h2
      · cases hl : listed.getD j false with
        | true =>
          have h2 := inv.closed j oj hoj hl e he hb
          rw [hon, getD_both hun] at h2
          cases h2
        | false =>
          have hjs : j < listed.size := by rw [inv.size]; omega
          exact ih (t - j) (by omega) j rfl (by omega) (getD_in hjs hl) t (Nat.le_refl _) hr
    · have h1 := List.all_eq_true.1 hc t (List.mem_range.2 htlt)
      simp only [Bool.or_eq_true, decide_eq_true_eq] at h1
      rcases h1 with h1 | h1
      · omega
      · obtain ⟨j, hj, hj2⟩ := List.any_eq_true.1 h1
        simp only [Bool.and_eq_true, decide_eq_true_eq] at hj2
        have hjt : j < t := List.mem_range.1 hj
        obtain ⟨o', ho', e, he, hb, hon⟩ := Region.waitsFor_spec hj2.2
        have : o' = ot := Option.some.inj (ho'.symm.trans hot)
        subst this
        have h2 := hall e he hb
        rw [hon, getD_both (inv.tail j hj2.1 (by omega))] at h2
        cases h2

theorem wpAnyL_first' {n i : Nat} {oi : Oper} {v : Value} {L : Array Bool → Act → Prop} (hi : ops[i]? = some oi) (hsel : ∀ (j : Nat) (o : Oper) cs b, ops[j]? = some o → o.op ≠ .select cs b)
    (hs : Region.sinkB md ops n = true) (hc : behindB md ops n = true) (hn : n < ops.size) (hin : i < n)
    (hdone : ∀ listed a, L listed a → ∀ j ∈ Region.ready md ops listed, n ≤ j) :
    ∀ (f : Nat) (listed : Array Bool) (a : Act), HeadInv md ops n listed →
      (∀ j oj, ops[j]? = some oj → j ≠ i → listed.getD j true = false → (∀ e ∈ oj.after, Region.binds md e = true → e.on ≠ i) → oi.apart ops oj = true) →
      i ∈ Region.ready md ops listed → YieldsAt P ops w oi v a →
      wpAnyL P md ops w n L f (listed.setIfInBounds i true) (a.put oi.dst v) → wpAnyL P md ops w n L (f + 1) listed a := by
  intro f
  induction f with
  | zero =>
    intro listed a inv _ hr hy H
    have hun := (mem_ready.1 hr).1
    refine ⟨fun h => (by rw [h] at hr; cases hr), fun j hj => ?_⟩
    have hjn : j < n := by
      rcases Nat.lt_or_ge j n with h | h
      · exact h
      · exact absurd hj (behind_waits hs hc hn inv _ i rfl hin hun j h)
    refine ⟨hjn, ?_⟩
    by_cases hji : j = i
    · subst hji; exact hy.stOp hi H
    · have := hdone _ _ H j (ready_mono hj hji)
      omega
  | succ f ih =>
    intro listed a inv hfree hr hy H
    have hun := (mem_ready.1 hr).1
    refine ⟨fun h => (by rw [h] at hr; cases hr), fun j hj => ?_⟩
    have hjn : j < n := by
      rcases Nat.lt_or_ge j n with h | h
      · exact h
      · exact absurd hj (behind_waits hs hc hn inv _ i rfl hin hun j h)
    refine ⟨hjn, ?_⟩
    by_cases hji : j = i
    · subst hji; exact hy.stOp hi H
    · have h1 := (H.2 j (ready_mono hj hji)).2
      obtain ⟨hjun, oj, hoj, hall⟩ := mem_ready.1 hj
      have hnot : ∀ e ∈ oj.after, Region.binds md e = true → e.on ≠ i := fun e he hb heq => by
        have h1 := hall e he hb
        rw [heq, getD_both hun] at h1
        cases h1
      have h2 := stOp_put hoj (hfree j oj hoj hji hjun hnot) (fun cs b => hsel i oi cs b hi) (fun cs b => hsel j oj cs b hoj) hy h1
      have hfree' : ∀ k ok, ops[k]? = some ok → k ≠ i → (listed.setIfInBounds j true).getD k true = false →
          (∀ e ∈ ok.after, Region.binds md e = true → e.on ≠ i) → oi.apart ops ok = true := fun k ok hk hki hun hno => by
        refine hfree k ok hk hki ?_ hno
        by_cases hjk : j = k
        · subst hjk; exact hjun
        · rw [getD_set_ne true hjk] at hun; exact hun
      refine stOp_mono (fun a' h3 => ih (listed.setIfInBounds j true) a' (inv.set hj hjn) hfree' (ready_mono hr (Ne.symm hji)) h3.1 ?_) h2
      rw [Array.setIfInBounds_comm _ _ hji]
      exact h3.2

/-- n alone may come, and behind it the rest, in the order of the text or another one. -/
def midB (md : Region.Mode) (ops : Array Oper) (n : Nat) (listed : Array Bool) : Bool :=
  decide (Region.ready md ops listed = [n]) && Region.lexFrom md ops (ops.size - (n + 1)) (n + 1) (listed.setIfInBounds n true)

def headB (md : Region.Mode) (ops : Array Oper) (n : Nat) : Nat → Nat → Array Bool → Bool
  | 0, _, listed => midB md ops n listed
  | f + 1, k, listed => (Region.ready md ops listed).contains k && Region.free md ops listed k && headB md ops n f (k + 1) (listed.setIfInBounds k true)

def midRegionB (md : Region.Mode) (ops : Array Oper) (n : Nat) : Bool :=
  Region.noSelect ops && decide (n < ops.size) && Region.sinkB md ops n && behindB md ops n && headB md ops n n 0 (Array.replicate ops.size false)

theorem wpAnyL_mid {n : Nat} {Lq : Act → Prop} (hsel : Region.noSelect ops = true) (hs : Region.sinkB md ops n = true) (hc : behindB md ops n = true) (hn : n < ops.size) :
    ∀ (l : List Oper) (k : Nat) (listed : Array Bool) (a : Act), (∀ j, j < l.length → l[j]? = ops[k + j]?) → k + l.length = n → HeadInv md ops n listed →
    headB md ops n l.length k listed = true → wpStill P ops w Lq l a →
    wpAnyL P md ops w n (fun listed' a' => midB md ops n listed' = true ∧ Lq a') l.length listed a
  | [], k, listed, a, _, hk, _, hB, h => ⟨hB, h⟩
  | o :: l, k, listed, a, hl, hk, inv, hB, h => by
    have h0 : ops[k]? = some o := by simpa using (hl 0 (by simp)).symm
    simp only [List.length_cons, headB, Bool.and_eq_true] at hB
    obtain ⟨⟨hr, hf⟩, hB'⟩ := hB
    have hkn : k < n := by simp only [List.length_cons] at hk; omega
    have hr' : k ∈ Region.ready md ops listed := by simpa using hr
    have hst : stOp P ops w k (wpStill P ops w Lq l) a := by unfold stOp; simp only [h0]; exact h
    obtain ⟨v, hy, hK⟩ := yieldsAt_of_stOp h0 hst
    refine wpAnyL_first' h0 (Region.noSelect_spec hsel) hs hc hn hkn (fun listed' a' hL => ?_) l.length listed a inv (Region.free_spec h0 hf) hr' hy
      (wpAnyL_mid hsel hs hc hn l (k + 1) _ _ (fun j hj => by have := hl (j + 1) (by simp; omega); simpa [Nat.add_assoc, Nat.add_comm 1 j] using this) (by simp only [List.length_cons] at hk; omega) (inv.set hr' hkn) hB' hK)
    have h1 := hL.1
    simp only [midB, Bool.and_eq_true, decide_eq_true_eq] at h1
    intro j hj
    rw [h1.1] at hj
    have : j = n := by simpa using hj
    omega

/-- THE RULE: the operations ahead of n only read; n may do what it likes; those behind n only read. -/
theorem wp_region_mid {id : Nat} {Q : Exit → Act → World → Prop} {a : Act} {l : List Oper} (n : Nat) {o : Oper} (ho : l[n]? = some o) (hm : P.follows .mixedOrders = true) (hB : midRegionB .any l.toArray n = true)
    (h : wpStill P l.toArray { w with drawn := w.drawn + 1 } (fun a' => wpList P l.toArray (Exit.then (fun a2 w2 => wpStill P l.toArray w2 (fun a3 => Q .normal a3 w2) (l.drop (n + 1)) a2) Q) [o] a' { w with drawn := w.drawn + 1 }) (l.take n) a) :
    (Code.region id l.toArray true).wp P Q a w := by
  simp only [midRegionB, Bool.and_eq_true, decide_eq_true_eq] at hB
  obtain ⟨⟨⟨⟨hsel, hn⟩, hs⟩, hc⟩, hlex⟩ := hB
  have hn' : n < l.length := by simpa using hn
  have htl : (l.take n).length = n := by simp; omega
  have inv0 : HeadInv .any l.toArray n (Array.replicate l.toArray.size false) :=
    ⟨by simp, fun j oj _ hl => (by rw [getD_replicate_false] at hl; cases hl), fun t _ ht => getD_in (by simpa using ht) (getD_replicate_false _ _)⟩
  have H := wpAnyL_mid (md := .any) hsel hs hc hn (l.take n) 0 _ a (fun j hj => by
    have hj' : j < n := by rw [htl] at hj; exact hj
    simp [hj']) (by simpa using htl) inv0 (by rw [htl]; exact hlex) h
  refine wp_region_any hm ?_
  have hdl : (l.drop (n + 1)).length = l.toArray.size - (n + 1) := by simp
  have := wpAny_of_head (Q' := Q) (g := (l.toArray.size - (n + 1)) + 1) (fun listed a' hL => by
    obtain ⟨hmid, hL⟩ := hL
    simp only [midB, Bool.and_eq_true, decide_eq_true_eq] at hmid
    obtain ⟨hr1, hlex1⟩ := hmid
    refine ⟨fun h0 => (by rw [hr1] at h0; cases h0), fun i hi => ?_⟩
    rw [hr1] at hi
    have hin : i = n := by simpa using hi
    subst hin
    have hw : wpOp P l.toArray (Exit.then (fun a2 w2 => wpStill P l.toArray w2 (fun a3 => Q .normal a3 w2) (l.drop (i + 1)) a2) Q) i (wpList P l.toArray (Exit.then (fun a2 w2 => wpStill P l.toArray w2 (fun a3 => Q .normal a3 w2) (l.drop (i + 1)) a2) Q) []) a' { w with drawn := w.drawn + 1 } := by
      unfold wpOp; simp only [List.getElem?_toArray, ho]; exact hL
    have hK : ∀ (a2 : Act) (w2 : World), wpList P l.toArray (Exit.then (fun a2 w2 => wpStill P l.toArray w2 (fun a3 => Q .normal a3 w2) (l.drop (i + 1)) a2) Q) [] a2 w2 →
        wpAny P .any l.toArray Q (l.toArray.size - (i + 1)) (listed.setIfInBounds i true) a2 w2 := fun a2 w2 h2 => by
      have h3 : wpStill P l.toArray w2 (fun a3 => Q .normal a3 w2) (l.drop (i + 1)) a2 := h2
      have h4 := wpAnyS_lex (md := .any) (P := P) (w := w2) hsel (l.drop (i + 1)) (i + 1) (listed.setIfInBounds i true) a2 (fun j => by simp [List.getElem?_drop]) (by rw [hdl]; exact hlex1) h3
      rw [hdl] at h4
      exact wpAny_of_still (Q' := Q) (fun _ h => h) _ _ _ h4
    unfold wpOp at hw ⊢
    simp only [List.getElem?_toArray, ho] at hw ⊢
    split
    · rename_i hwn
      simp only [hwn, if_true] at hw
      rcases hw with hw | ⟨hw, hl⟩
      · exact .inl (wp_then hK hw)
      · obtain ⟨a0, w0, hq⟩ := hl
        exact .inr ⟨hw, a0, w0, hq⟩
    · rename_i hwn
      simp only [hwn] at hw
      exact hK _ _ hw) _ _ _ H
  rw [htl, show n + ((l.toArray.size - (n + 1)) + 1) = l.toArray.size by omega] at this
  exact this
where
  wp_then {P : Program} {o : Oper} {a : Act} {w : World} {K K' N : Act → World → Prop} {Q : Exit → Act → World → Prop} (hK : ∀ a w, K a w → K' a w) (h : o.wp P a w K (Exit.then N Q)) : o.wp P a w K' Q := by
    unfold Oper.wp at *
    generalize (execOp a.eval o).run P w = r at *
    cases r with
    | ok n w' =>
      cases n <;> simp only [Oper.upon] at h ⊢ <;>
        first
          | exact hK _ _ h
          | exact Calls.mono h (fun e w'' he => by cases e <;> first | exact hK _ _ he | exact he)
          | exact Rows.mono h (fun _ _ he => hK _ _ he)
    | halt x w' => cases x <;> simp only [Oper.upon] at h ⊢ <;> exact h
end
end Go.Proofs.Ck

namespace Go.Proofs.Ck
open Go Go.RowKit

/-- A segment's words, when one is stored; what the store tells. -/
def stored (W : List Nat) (off x : Nat) : List Nat := if off % 8 = 0 ∧ off / 8 < W.length then W.set (off / 8) x else W
def codeOf (W : List Nat) (off : Nat) : Nat := if off % 8 = 0 ∧ off / 8 < W.length then 0 else 1
theorem stored_length (W : List Nat) (off x : Nat) : (stored W off x).length = W.length := by unfold stored; split <;> simp
theorem rstore_any {S : Nat → Prop} {A : Option Addr} {c L : Nat} {W : List Nat} {w : World} (h : Row S w A L 1 (u64s W)) (hL : W.length = L) (off x : Nat) (ho : off < 18446744073709551616) (hn : L ≤ 17592186044416) :
    Calls Try.prog 141 #[.slice A L c, .int .u64 (off : Int), .int .u64 (x : Int)] w fun e w' =>
      (∃ A' c', e = .returned (.tuple #[.slice A' L c', .int .i64 (codeOf W off : Int)]) ∧ Row (fun b => S b ∨ w.heap.size ≤ b) w' A' L 1 (u64s (stored W off x))) ∧ Grow w w' := by
  subst hL
  by_cases hc : off % 8 = 0 ∧ off / 8 < W.length
  · refine (rstore_ok h off x hc.1 hc.2 hn).mono fun e w' ⟨⟨g, c', h1, h2⟩, h3⟩ => ⟨⟨some ⟨g, 0, none⟩, c', by rw [h1, codeOf, if_pos hc]; rfl, ?_⟩, h3⟩
    rw [stored, if_pos hc]
    have h4 := h2.mono fun b _ hb => Or.inr (a := S b) hb
    rw [List.length_set] at h4
    exact h4
  · refine (rstore_bad A W.length c off x w ho hc (by omega)).mono fun e w' ⟨h1, h2⟩ => ⟨⟨A, c, by rw [h1, codeOf, if_neg hc]; rfl, ?_⟩, h2 ▸ Below.refl _ _⟩
    subst h2
    rw [stored, if_neg hc]
    exact h.mono fun b _ hb => .inl hb

/-- Pairs of words. -/
def puts (l : List (Nat × Nat)) : List Value := l.flatMap fun p => [Value.int .u64 (p.1 : Int), Value.int .u64 (p.2 : Int)]
theorem puts_length (l : List (Nat × Nat)) : (puts l).length = l.length * 2 := by
  induction l with
  | nil => rfl
  | cons p l ih => simp [puts] at ih ⊢; omega
theorem puts_get {l : List (Nat × Nat)} {i : Nat} (h : i < l.length) : (puts l)[i * 2]? = some (.int .u64 (((l.getD i (0, 0)).1 : Nat) : Int)) ∧ (puts l)[i * 2 + 1]? = some (.int .u64 (((l.getD i (0, 0)).2 : Nat) : Int)) := by
  induction l generalizing i with
  | nil => simp at h
  | cons p l ih =>
    cases i with
    | zero => simp [puts]
    | succ i =>
      have := ih (i := i) (by simpa using h)
      have e : puts (p :: l) = .int .u64 (p.1 : Int) :: .int .u64 (p.2 : Int) :: puts l := by simp [puts]
      rw [e, show (i + 1) * 2 = i * 2 + 1 + 1 by omega]
      simpa using this
theorem puts_one (l : List (Nat × Nat)) : ∀ u ∈ puts l, u.oneCell' = true := by
  intro u hu
  obtain ⟨p, _, hp⟩ := List.mem_flatMap.1 hu
  simp at hp
  rcases hp with rfl | rfl <;> rfl
abbrev Puts (S : Nat → Prop) (w : World) (A : Option Addr) (l : List (Nat × Nat)) : Prop := Row S w A l.length 2 (puts l)

/-- The words of a segment of so many bytes, in which words were stored. -/
def may (size : Nat) : Prop := 0 < size ∧ size % 8 = 0 ∧ size ≤ 1048576
instance (size : Nat) : Decidable (may size) := inferInstanceAs (Decidable (_ ∧ _ ∧ _))
def fresh (size : Nat) : List Nat := if may size then List.replicate (size / 8) 0 else []
theorem take_succ_getD' {l : List (Nat × Nat)} {k : Nat} (h : k < l.length) : l.take (k + 1) = l.take k ++ [l.getD k (0, 0)] := by
  rw [List.take_succ_eq_append_getElem h, List.getD_eq_getElem?_getD, List.getElem?_eq_getElem h]
  rfl
end Go.Proofs.Ck
