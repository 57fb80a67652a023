/- Words that are thought of, over a segment's: the program's. -/
import Derived.Test.YtpakfelekphbmaaTx0
import Derived.Test.YtpakfelekphbmaaAny
import Derived.Lib.Hide
namespace Go.Proofs.Ck
open Go Go.RowKit

/-- A segment's words, and those that are thought of. -/
structure St where
  W : List Nat
  p : List (Nat × Nat)
/-- A word's old value, and what is thought of. -/
def St.old (σ : St) (off : Nat) : Nat := if off % 8 = 0 ∧ off / 8 < σ.W.length then σ.W.getD (off / 8) 0 else 0
def St.load (σ : St) (off : Nat) : Nat := (plook σ.p off).getD (σ.old off)
def St.store (σ : St) (off v : Nat) : St := if off % 8 = 0 ∧ off / 8 < σ.W.length then ⟨σ.W, pput σ.p off v⟩ else σ

structure TxRep (w : World) (base tb mb : Nat) (T : Value) (sb bb cap : Nat) (cs : Array Value) (σ : St) : Prop where
  tx : w.heap[tb]? = some (.cells #[.pointer (some ⟨sb, 0, none⟩), .map (some mb), T] 194 (0, 0))
  seg : SegRep w sb bb cap cs σ.W
  map : ∃ es clock, w.heap[mb]? = some (.map es clock) ∧ Entries es σ.p
  turn : w.ownsRow base 22 1 T σ.p.length (u64s (σ.p.map (·.1)))
  nodup : (σ.p.map (·.1)).Nodup
  dom : ∀ q ∈ σ.p, (q.1 % 8 = 0 ∧ q.1 / 8 < σ.W.length) ∧ q.1 < 18446744073709551616 ∧ q.2 < 18446744073709551616
  baseT : base ≤ tb
  baseM : base ≤ mb
  baseS : sb < base ∧ bb < base

/-- The blocks that it may turn. -/
def Mut (tb mb : Nat) (T : Value) (b : Nat) : Prop := b = tb ∨ b = mb ∨ T.ownBlock = some b

/-- A pointer to such. -/
def TxAt (w : World) (base : Nat) (v : Value) (M : Nat → Prop) (σ : St) : Prop :=
  ∃ tb mb T sb bb cap cs, v = .pointer (some ⟨tb, 0, none⟩) ∧ M = Mut tb mb T ∧ TxRep w base tb mb T sb bb cap cs σ

theorem TxRep.grow {w w' : World} {base tb mb : Nat} {T : Value} {sb bb cap : Nat} {cs : Array Value} {σ : St} (h : TxRep w base tb mb T sb bb cap cs σ) (hg : Grow w w') : TxRep w' base tb mb T sb bb cap cs σ :=
  { h with tx := hg.heap h.tx, seg := h.seg.grow hg, map := by obtain ⟨es, c, h1, h2⟩ := h.map; exact ⟨es, c, hg.heap h1, h2⟩, turn := own_grow h.turn hg }
theorem TxAt.grow {w w' : World} {base : Nat} {v : Value} {M : Nat → Prop} {σ : St} (h : TxAt w base v M σ) (hg : Grow w w') : TxAt w' base v M σ := by
  obtain ⟨tb, mb, T, sb, bb, cap, cs, h1, h2, h3⟩ := h
  exact ⟨tb, mb, T, sb, bb, cap, cs, h1, h2, h3.grow hg⟩
theorem TxAt.base {w : World} {base : Nat} {v : Value} {M : Nat → Prop} {σ : St} (h : TxAt w base v M σ) : ∀ b, M b → base ≤ b := by
  obtain ⟨tb, mb, T, sb, bb, cap, cs, h1, rfl, h3⟩ := h
  rintro b (rfl | rfl | hb)
  · exact h3.baseT
  · exact h3.baseM
  · exact own_ge h3.turn b hb
theorem TxAt.words {w : World} {base : Nat} {v : Value} {M : Nat → Prop} {σ : St} (h : TxAt w base v M σ) : ∀ x ∈ σ.W, x < 18446744073709551616 := by
  obtain ⟨tb, mb, T, sb, bb, cap, cs, h1, rfl, h3⟩ := h
  exact h3.seg.words
theorem getD_lt {W : List Nat} (h : ∀ x ∈ W, x < 18446744073709551616) (i : Nat) : W.getD i 0 < 18446744073709551616 := by
  rw [List.getD_eq_getElem?_getD]
  cases hi : W[i]? with
  | none => simp
  | some x => exact h x (List.mem_of_getElem? hi)
theorem old_lt {σ : St} (h : ∀ x ∈ σ.W, x < 18446744073709551616) (off : Nat) : σ.old off < 18446744073709551616 := by
  unfold St.old
  split
  · exact getD_lt h _
  · omega
theorem plook_val {p : List (Nat × Nat)} {off v : Nat} (h : plook p off = some v) : (off, v) ∈ p := by
  unfold plook at h
  cases hf : p.find? (fun q => q.1 == off) with
  | none => rw [hf] at h; cases h
  | some q =>
    rw [hf] at h
    have h1 := List.mem_of_find?_eq_some hf
    have h2 := List.find?_some hf
    simp at h h2
    rwa [← h, ← h2]

theorem old_call {w : World} {base : Nat} {v : Value} {M : Nat → Prop} {σ : St} (h : TxAt w base v M σ) (off : Nat) (ho : off < 18446744073709551616) :
    Calls Try.prog 172 #[v, .int .u64 (off : Int)] w fun e w' => e = .returned (.int .u64 ((σ.old off : Nat) : Int)) ∧ Grow w w' := by
  obtain ⟨tb, mb, T, sb, bb, cap, cs, rfl, rfl, h⟩ := h
  have c0 : w.cell? ⟨tb, 0, none⟩ = some (.pointer (some ⟨sb, 0, none⟩)) := by rw [cell_of_heap h.tx]; rfl
  have hs := h.seg
  clear h
  unfold St.old
  split
  · next hc =>
    obtain ⟨hm, hl⟩ := hc
    have hld := load_ok hs off hm hl
    generalize σ.W.getD (off / 8) 0 = V at *
    go_enter Try.func172, Try.ntmps172
    go_wp2_with fail
    refine hld.mono ?_
    rintro e w1 ⟨rfl, hg⟩
    go_wp2
    go_ret
    exact ⟨rfl, hg⟩
  · next hc =>
    have hld := load_bad hs off ho hc
    go_enter Try.func172, Try.ntmps172
    go_wp2_with fail
    refine hld.mono ?_
    rintro e w1 ⟨rfl, rfl⟩
    go_wp2
    go_ret
    exact ⟨rfl, Below.refl _ _⟩
theorem zero22 (w : World) : (zeroValue 22).run Try.prog w = .ok (.int .u64 0) w := by
  first
  | exact Try.zeroValue22 w
  | exact Try.zero22 w

theorem load_call {w : World} {base : Nat} {v : Value} {M : Nat → Prop} {σ : St} (h : TxAt w base v M σ) (off : Nat) (ho : off < 18446744073709551616) :
    Calls Try.prog 118 #[v, .int .u64 (off : Int)] w fun e w' => e = .returned (.int .u64 ((σ.load off : Nat) : Int)) ∧ Grow w w' := by
  have hold := old_call h off ho
  obtain ⟨tb, mb, T, sb, bb, cap, cs, rfl, rfl, h⟩ := h
  have c1 : w.cell? ⟨tb, 1, none⟩ = some (.map (some mb)) := by rw [cell_of_heap h.tx]; rfl
  obtain ⟨es, clock, hm, he⟩ := h.map
  unfold St.load
  cases hl : plook σ.p off with
  | some V =>
    have hlk := run_lookup_some (P := Try.prog) Try.underlying192 Try.underlying22 hm he hl
    clear hold h he hm
    simp only [Option.getD_some]
    go_enter Try.func118, Try.ntmps118
    go_wp2
    go_ret
    exact ⟨rfl, Below.refl _ _⟩
  | none =>
    have hlk := run_lookup_none (P := Try.prog) Try.underlying192 Try.underlying22 zero22 hm he hl
    clear h he hm
    simp only [Option.getD_none]
    go_enter Try.func118, Try.ntmps118
    go_wp2_with fail
    refine hold.mono ?_
    rintro e w1 ⟨rfl, hg⟩
    go_wp2
    go_ret
    exact ⟨rfl, hg⟩
end Go.Proofs.Ck
