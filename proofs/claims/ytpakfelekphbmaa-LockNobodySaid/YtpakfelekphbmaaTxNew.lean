/- Words that are thought of: none yet; nobody's. -/
import Derived.Test.YtpakfelekphbmaaTxStore
namespace Go.Proofs.Ck
open Go Go.RowKit

theorem new_call {w : World} {sb bb cap : Nat} {cs : Array Value} {W : List Nat} (h : SegRep w sb bb cap cs W) :
    Calls Try.prog 155 #[.pointer (some ⟨sb, 0, none⟩)] w fun e w' => ∃ v M, e = .returned v ∧ TxAt w' w.heap.size v M ⟨W, []⟩ ∧ Grow w w' := by
  have hmk : (Instr.makeMap 192 none).run Try.prog w = .ok (.map (some w.heap.size)) (w.alloc (.map #[] 0)) := rfl
  go_enter Try.func155, Try.ntmps155
  go_wp2
  go_ret
  have hg1 : Grow w (w.alloc (.map #[] 0)) := (Below.refl _ _).alloc (Nat.le_refl _) _
  have hg2 : Grow (w.alloc (.map #[] 0)) ((w.alloc (.map #[] 0)).alloc (.cells #[.pointer (some ⟨sb, 0, none⟩), .map (some w.heap.size), .slice none 0 0] 194)) := (Below.refl _ _).alloc (Nat.le_refl _) _
  have hm := World.alloc_heap_new w (.map #[] 0)
  have ht := World.alloc_heap_new (w.alloc (.map #[] 0)) (.cells #[.pointer (some ⟨sb, 0, none⟩), .map (some w.heap.size), .slice none 0 0] 194)
  have hsz : (w.alloc (.map #[] 0)).heap.size = w.heap.size + 1 := by simp
  rw [hsz] at ht
  refine ⟨_, _, rfl, ⟨w.heap.size + 1, w.heap.size, .slice none 0 0, sb, bb, cap, cs, rfl, rfl, ⟨ht, (h.grow hg1).grow hg2, ⟨#[], 0, hg2.heap hm, rfl⟩, World.ownsRow_nil _ _ _ _, by simp, by simp, by omega, Nat.le_refl _, h.lt, h.lt'⟩⟩, hg1.trans hg2⟩

theorem load_nil_tx (w : World) (off : Int) : Calls Try.prog 118 #[.pointer none, .int .u64 off] w fun e w' => e = .returned (.int .u64 0) ∧ w = w' := by
  go_enter Try.func118, Try.ntmps118
  go_wp2
  go_ret
  exact ⟨rfl, rfl⟩
end Go.Proofs.Ck
