/- A part of the proofs of this seat's laws. -/
import Derived.Test.YtpakfelekphbmaaSeg
import Derived.Lib.Hide
namespace Go.Proofs.Ck
open Go Go.RowKit
attribute [local go_sem] Oper.semAt_some wide_fn wide_depth wide_in_fn wide_in_depth

set_option maxRecDepth 100000 in
theorem or_byte (x b : Nat) (hb : b < 256) (h : x * 256 + b < 18446744073709551616) : bits .or .u64 ((x : Int) * 256) (b : Int) = ((x * 256 + b : Nat) : Int) := by
  have e : ((x : Int) * 256) = ((x * 256 : Nat) : Int) := by omega
  rw [e, u64_or_nat _ _ (by omega) (by omega)]
  congr 1
  have := Nat.two_pow_add_eq_or_of_lt (i := 8) (b := b) (by omega) x
  rw [Nat.mul_comm x 256]
  exact this.symm

theorem fold_step (V i : Nat) : V / 256 ^ (i + 1) * 256 + byteOf V i = V / 256 ^ i := by
  unfold byteOf
  rw [Nat.pow_succ, ← Nat.div_div_eq_div_mul]
  omega

theorem byteOf_lt (V i : Nat) : byteOf V i < 256 := Nat.mod_lt _ (by omega)

theorem getD_mem {W : List Nat} {i : Nat} (h : i < W.length) : W.getD i 0 ∈ W := by
  rw [List.getD_eq_getElem?_getD, List.getElem?_eq_getElem h]
  exact List.getElem_mem _

set_option maxRecDepth 100000 in
set_option maxHeartbeats 1000000 in
theorem load_ok {w : World} {sb bb cap : Nat} {cs : Array Value} {W : List Nat} (h : SegRep w sb bb cap cs W) (off : Nat) (hm : off % 8 = 0) (hlt : off / 8 < W.length) :
    Calls Try.prog 57 #[.pointer (some ⟨sb, 0, none⟩), .int .u64 off] w fun e w' => e = .returned (.tuple #[.int .u64 ((W.getD (off / 8) 0 : Nat) : Int), .int .i64 0]) ∧ Grow w w' := by
  have hs := h.small
  have hle := h.le
  have hcp := h.capLe
  have hhead := h.head
  have hsb := h.lt
  refine calls_of_range Try.func57 rfl ?_
  simp only [Try.ntmps57, List.size_toArray, List.length_cons, List.length_nil, Nat.reduceAdd, Nat.reduceSub, Array.replicate_succ, Array.replicate_zero, List.push_toArray, List.append_toArray, List.nil_append, List.cons_append]
  gi_wp2_with (first
    | (gi_at_call 145; refine (ranged (in_ok h off hm hlt)).mono ?_; rintro e w' ⟨rfl, rfl⟩)
    | (gi_at_call 147; refine (ranged (backward _ _ _ _)).mono ?_; rintro e w' ⟨rfl, rfl⟩))
  have hV := h.words (W.getD (off / 8) 0) (getD_mem hlt)
  generalize hVd : W.getD (off / 8) 0 = V at hV ⊢
  have hg0 : Grow w ((w.alloc (Obj.cells #[Value.int IntKind.u64 0] 22)).alloc (Obj.cells #[Value.slice (some { block := bb, off := off }) 8 (cap - off)] 30)) :=
    ((Below.refl _ w).alloc (Nat.le_refl _) _).alloc (by simp) _
  have hbox0 : ((w.alloc (Obj.cells #[Value.int IntKind.u64 0] 22)).alloc (Obj.cells #[Value.slice (some { block := bb, off := off }) 8 (cap - off)] 30)).heap[w.heap.size]? = some (.cells #[Value.int IntKind.u64 0] 22 (0, 0)) :=
    (Below.heap_alloc _ _ _ (by simp)).trans (World.alloc_heap_new w _)
  have hbox1 : ((w.alloc (Obj.cells #[Value.int IntKind.u64 0] 22)).alloc (Obj.cells #[Value.slice (some { block := bb, off := off }) 8 (cap - off)] 30)).heap[w.heap.size + 1]? = some (.cells #[Value.slice (some { block := bb, off := off }) 8 (cap - off)] 30 (0, 0)) := by
    have := World.alloc_heap_new (w.alloc (Obj.cells #[Value.int IntKind.u64 0] 22)) (Obj.cells #[Value.slice (some { block := bb, off := off }) 8 (cap - off)] 30); rwa [World.size_alloc] at this
  have hbb := h.lt'
  have hcells : ∀ j, j < 8 → ((w.alloc (Obj.cells #[Value.int IntKind.u64 0] 22)).alloc (Obj.cells #[Value.slice (some { block := bb, off := off }) 8 (cap - off)] 30)).cell? ⟨bb, off + j, none⟩ = some (.int .u8 ((byteOf V j : Nat) : Int)) := by
    intro j hj
    rw [cell_of_heap (hg0.heap h.bytes), h.cell _ (by omega)]
    have e1 : (off + j) / 8 = off / 8 := by omega
    have e2 : (off + j) % 8 = j := by omega
    rw [segByte, e1, e2, hVd]
  generalize hW2 : ((w.alloc (Obj.cells #[Value.int IntKind.u64 0] 22)).alloc (Obj.cells #[Value.slice (some { block := bb, off := off }) 8 (cap - off)] 30)) = W2 at hg0 hbox0 hbox1 hcells ⊢
  have hz2 : W2.heap.size = w.heap.size + 2 := by rw [← hW2]; simp
  clear hW2
  refine wp_range (gf := 182) (lb := #[.pointer (some ⟨w.heap.size + 1, 0, none⟩)]) rfl (fun args w => Try.call182 args w)
    (backward_iter (w.heap.size + 1) bb off 8 (cap - off) (byteOf V) W2 (by omega) (by rw [cell_of_heap hbox1]; rfl) hcells)
    (by rintro b (rfl | rfl) <;> omega) (fun _ => rfl)
    (fun i X => X.heap[w.heap.size]? = some (.cells #[.int .u64 ((V / 256 ^ (8 - i) : Nat) : Int)] 22 (0, 0)) ∧ Grow w X)
    (fun _ _ _ => False)
    (fun i A B hs hm => ⟨hm.heap hs.1, hm.below hs.2 (by omega) hs.2.size⟩) (fun _ _ _ _ hs _ => hs)
    ⟨by rw [hbox0, Nat.div_eq_of_lt (show V < 256 ^ (8 - 0) from hV)]; rfl, hg0⟩
    (fun i => { tmps := #[Value.pointer (some { block := sb, off := 0 }), Value.int IntKind.u64 ↑off, undef, undef,
          Value.int IntKind.u64 0, Value.int IntKind.i64 0, Value.pointer (some { block := w.heap.size, off := 0 }),
          undef, .int .u8 ((byteOf V (8 - 1 - i) : Nat) : Int), Value.pointer (some { block := sb, off := 0 }), Value.int IntKind.u64 ↑off, Value.bool true,
          Value.bool false, Value.pointer (some { block := sb, off := 0 }),
          Value.pointer (some { block := sb, off := 0 }), Value.pointer (some { block := sb, off := 0 }),
          Value.slice (some { block := bb, off := 0 }) (8 * W.length) cap, Value.int IntKind.u64 ↑off,
          Value.int IntKind.u64 ↑off, Value.int IntKind.u64 (↑off + 8),
          Value.slice (some { block := bb, off := off }) 8 (cap - off),
          Value.func (Fn.func 182) #[] #[Value.pointer (some { block := w.heap.size + 1, off := 0 })], .int .i64 (((8 : Nat) : Int) - 1 - i), .int .u8 ((byteOf V (8 - 1 - i) : Nat) : Int),
          undef, undef, undef, undef, undef, undef], defers := [] }) ?assign ?body ?done ?stop
  case assign =>
    intro l i X K hK
    gi_wp2
    exact hK
  case body =>
    rintro l i X hi ⟨hb, hg⟩
    have hlt0 := byteOf_lt V (8 - 1 - i)
    have hst : V / 256 ^ (8 - i) * 256 + byteOf V (8 - 1 - i) = V / 256 ^ (8 - (i + 1)) := by
      have := fold_step V (8 - 1 - i)
      rw [show 8 - 1 - i + 1 = 8 - i from by omega] at this
      rw [this]; congr 2; omega
    have hnx : V / 256 ^ (8 - (i + 1)) < 18446744073709551616 := Nat.lt_of_le_of_lt (Nat.div_le_self _ _) hV
    generalize byteOf V (8 - 1 - i) = c at hlt0 hst ⊢
    generalize V / 256 ^ (8 - i) = x at hst hb
    have hc0 : X.cell? ⟨w.heap.size, 0, none⟩ = some (.int .u64 (x : Int)) := by rw [cell_of_heap hb]; rfl
    have hf0 : X.frozen? ⟨w.heap.size, 0, none⟩ = false := frozen_of_heap hb 0
    have hxs : x * 256 + c < 18446744073709551616 := by omega
    have H := Lib.hid hst; clear hst hnx
    gi_wp2
    rw [or_byte _ _ hlt0 hxs, H.out]
    have hb' : Boxed X w.heap.size 22 (.int .u64 (x : Int)) := hb
    exact ⟨(Held.refl _ _).setCell (by simp; omega) _, hb'.set _, hg.setCell (Nat.le_refl _) _⟩
  case done =>
    rintro D X hD ⟨hb, hg⟩ hK
    have hc0 : X.cell? ⟨w.heap.size, 0, none⟩ = some (.int .u64 (V : Int)) := by rw [cell_of_heap hb]; simp
    gi_wp2
    refine marks_ret hK (results_tmp2 rfl _ _ _) ⟨by rw [hVd]; rfl, ?_⟩
    exact (Mild.putObj (n := w.heap.size) _ (by omega) hK rfl).below hg (Nat.le_refl _) hg.size
  case stop =>
    rintro D c i X _ _ h _
    exact h.elim
end Go.Proofs.Ck
