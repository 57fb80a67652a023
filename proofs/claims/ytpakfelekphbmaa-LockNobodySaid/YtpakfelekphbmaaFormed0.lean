/- A segment, formatted, and what is thought of over it, twice. -/
import Derived.Test.YtpakfelekphbmaaRtxStore
import Derived.Test.YtpakfelekphbmaaFill0
namespace Go.Proofs.Ck
open Go Go.RowKit

/-- The program's words that are thought of, and the document's, alike. -/
structure Pair (w : World) (base : Nat) (v rv : Value) (M : Nat → Prop) (σ : St) : Prop where
  tx : TxAt w base v M σ
  ref : ∃ A c B d, rv = .agg #[.slice A σ.W.length c, .slice B σ.p.length d] ∧ Nums (fun b => ¬ M b) w A σ.W ∧ Puts (fun b => ¬ M b) w B σ.p ∧ (B = none → d = 0)

theorem TxAt.nodup {w : World} {base : Nat} {v : Value} {M : Nat → Prop} {σ : St} (h : TxAt w base v M σ) : (σ.p.map (·.1)).Nodup := by
  obtain ⟨tb, mb, T, sb, bb, cap, cs, h1, rfl, h3⟩ := h
  exact h3.nodup
theorem TxAt.lt {w : World} {base : Nat} {v : Value} {M : Nat → Prop} {σ : St} (h : TxAt w base v M σ) : ∀ b, M b → b < w.heap.size := by
  obtain ⟨tb, mb, T, sb, bb, cap, cs, h1, rfl, h3⟩ := h
  rintro b (rfl | rfl | hb)
  · exact lt_of_heap h3.tx
  · obtain ⟨es, c, h4, _⟩ := h3.map
    exact lt_of_heap h4
  · exact (h3.turn.lt b hb).2

/-- A row that the changing blocks don't hold stays, behind a change. -/
theorem Row.past {w w' : World} {M M' : Nat → Prop} {A : Option Addr} {n k : Nat} {xs : List Value} (h : Row (fun b => ¬ M b) w A n k xs) (ho : Only M w w') (hM : ∀ b, M' b → M b ∨ w.heap.size ≤ b) : Row (fun b => ¬ M' b) w' A n k xs := by
  have h1 : Row (fun b => ¬ M b ∧ b < w.heap.size) w A n k xs := h.mono fun b hb hs => ⟨hs, hb⟩
  refine (h1.only ho (fun b hb hs => hs.1 hb)).mono fun b _ hs hm => ?_
  rcases hM b hm with h2 | h2
  · exact hs.1 h2
  · omega

theorem Row.past2 {w w' : World} {M M' Q : Nat → Prop} {A : Option Addr} {n k : Nat} {xs : List Value} (h : Row (fun b => ¬ M b ∧ Q b) w A n k xs) (ho : Only M w w') (hM : ∀ b, M' b → M b ∨ w.heap.size ≤ b) : Row (fun b => ¬ M' b ∧ Q b) w' A n k xs := by
  have h1 : Row (fun b => (¬ M b ∧ Q b) ∧ b < w.heap.size) w A n k xs := h.mono fun b hb hs => ⟨hs, hb⟩
  refine (h1.only ho (fun b hb hs => hs.1.1 hb)).mono fun b _ hs => ⟨fun hm => ?_, hs.1.2⟩
  rcases hM b hm with h2 | h2
  · exact hs.1.1 h2
  · omega

theorem Pair.grow {w w' : World} {base : Nat} {v rv : Value} {M : Nat → Prop} {σ : St} (h : Pair w base v rv M σ) (hg : Grow w w') : Pair w' base v rv M σ := by
  obtain ⟨A, c, B, d, h1, h2, h3, h4⟩ := h.ref
  exact ⟨h.tx.grow hg, A, c, B, d, h1, h2.grow hg, h3.grow hg, h4⟩

theorem TxAt.other {w w' : World} {base : Nat} {v : Value} {M N : Nat → Prop} {σ : St} (h : TxAt w base v M σ) (ho : Only N w w') (hN : ∀ b, N b → ¬ M b ∧ base ≤ b) : TxAt w' base v M σ := by
  obtain ⟨tb, mb, T, sb, bb, cap, cs, h1, rfl, h3⟩ := h
  refine ⟨tb, mb, T, sb, bb, cap, cs, h1, rfl, ?_⟩
  have hM : ∀ b, Mut tb mb T b → ¬ N b := fun b hb hn => (hN b hn).1 hb
  have hS : ∀ b, b < base → ¬ N b := fun b hb hn => by have := (hN b hn).2; omega
  obtain ⟨es, c, hm, he⟩ := h3.map
  exact { h3 with
    tx := ho.heap h3.tx (hM _ (.inl rfl))
    seg := h3.seg.moved (ho.block _ h3.seg.lt (hS _ h3.baseS.1)) (ho.block _ h3.seg.lt' (hS _ h3.baseS.2))
    map := ⟨es, c, ho.heap hm (hM _ (.inr (.inl rfl))), he⟩
    turn := own_moved h3.turn (fun b hb => ho.block _ (h3.turn.lt b hb).2 (hM _ (.inr (.inr hb)))) }

theorem TxAt.other67 {w w' : World} {base : Nat} {v : Value} {M N : Nat → Prop} {σ : St} (h : TxAt w base v M σ) (ho : Only N w w') (hN : ∀ b, N b → ¬ M b ∧ ∃ cs f, w.heap[b]? = some (.cells cs 67 f)) : TxAt w' base v M σ := by
  obtain ⟨tb, mb, T, sb, bb, cap, cs, h1, rfl, h3⟩ := h
  refine ⟨tb, mb, T, sb, bb, cap, cs, h1, rfl, ?_⟩
  have hM : ∀ b, Mut tb mb T b → ¬ N b := fun b hb hn => (hN b hn).1 hb
  have hS1 : ¬ N sb := fun hn => by
    obtain ⟨_, c, f, h⟩ := hN _ hn
    have h2 := h3.seg.seg
    rw [h] at h2
    cases h2
  have hS2 : ¬ N bb := fun hn => by
    obtain ⟨_, c, f, h⟩ := hN _ hn
    have h2 := h3.seg.bytes
    rw [h] at h2
    cases h2
  obtain ⟨es, c, hm, he⟩ := h3.map
  exact { h3 with
    tx := ho.heap h3.tx (hM _ (.inl rfl))
    seg := h3.seg.moved (ho.block _ h3.seg.lt hS1) (ho.block _ h3.seg.lt' hS2)
    map := ⟨es, c, ho.heap hm (hM _ (.inr (.inl rfl))), he⟩
    turn := own_moved h3.turn (fun b hb => ho.block _ (h3.turn.lt b hb).2 (hM _ (.inr (.inr hb)))) }

/-- What is thought of, so many words of a list stored. -/
def fillS (σ : St) (l : List (Nat × Nat)) : St := l.foldl (fun σ q => σ.store q.1 q.2) σ
theorem fillS_snoc (σ : St) (l : List (Nat × Nat)) (q : Nat × Nat) : fillS σ (l ++ [q]) = (fillS σ l).store q.1 q.2 := by simp [fillS]
theorem store_W (σ : St) (off x : Nat) : (σ.store off x).W = σ.W := by unfold St.store; split <;> rfl
theorem store_p (σ : St) (off x : Nat) : (σ.store off x).p.length ≤ σ.p.length + 1 := by
  unfold St.store
  split
  · show (pput σ.p off x).length ≤ _
    unfold pput
    split <;> simp
  · omega
theorem fillS_W (σ : St) (l : List (Nat × Nat)) : (fillS σ l).W = σ.W := by
  unfold fillS
  induction l generalizing σ with
  | nil => rfl
  | cons q l ih => rw [List.foldl_cons, ih, store_W]
theorem fillS_p (σ : St) (l : List (Nat × Nat)) : (fillS σ l).p.length ≤ σ.p.length + l.length := by
  unfold fillS
  induction l generalizing σ with
  | nil => simp
  | cons q l ih =>
    rw [List.foldl_cons, List.length_cons]
    have := ih (σ.store q.1 q.2)
    have := store_p σ q.1 q.2
    omega

theorem results_tmp_cell {fn : Func} {p u : Tmp} {ty : TypeId} {P : Program} (h : fn.results = #[.tmp u, .cell p ty]) (tmps : Array Value) (w : World) (g : Nat) (cs : Array Value)
    (hp : tmps.getD p undef = .pointer (some ⟨g, 0, none⟩)) (hl : (loadVar ty ⟨g, 0, none⟩).run P w = .ok (.agg cs) w) :
    (results fn tmps).run P w = .ok (.tuple #[tmps.getD u undef, .agg cs]) w := by
  have hp' : tmps[p]?.getD undef = .pointer (some ⟨g, 0, none⟩) := by simpa using hp
  simp only [results, h]
  simp [Result.andThen, hp', asAddr, hl]
theorem ret_formed {fn : Func} {R : Ending → World → Prop} {tmps : Array Value} {p u : Tmp} {W : World} {g : Nat} {cs : Array Value} {fr : Nat × Nat} {v : Value} (hf : fn.results = #[.tmp u, .cell p 67])
    (hp : tmps.getD p undef = .pointer (some ⟨g, 0, none⟩)) (hv : tmps.getD u undef = v) (hg : W.heap[g]? = some (.cells cs 67 fr)) (h2 : cs.size = 2) (hR : R (.returned (.tuple #[v, .agg cs])) W) :
    bodyPost Try.prog fn R .ret ⟨tmps, []⟩ W :=
  bodyPost_ret ((results_tmp_cell hf tmps W g cs hp (run_loadVar_row W g 67 67 cs fr _ hg Try.underlying67 rfl (info67.trans (by rw [h2])))).trans (by rw [hv])) rfl hR
end Go.Proofs.Ck
