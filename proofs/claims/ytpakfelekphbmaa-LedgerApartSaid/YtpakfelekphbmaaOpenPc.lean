/- Arguments opened: pieces, and steps. -/
import Derived.Test.YtpakfelekphbmaaOpenS
import Derived.Test.YtpakfelekphbmaaGLl
import Derived.Lib.SmallJoins
namespace Go.Proofs.Ck
open Go Go.RowKit Go.ChangeShapes Go.WideShapes Go.ChangeAt

theorem wf_u16 {n : Int} (h : (Lit.int .u16 n).wf = true) : ∃ x : Nat, n = (x : Int) ∧ x < 65536 := by
  simp [Lit.wf, IntKind.min, IntKind.max, IntKind.signed, IntKind.bits] at h
  exact ⟨n.toNat, by omega, by omega⟩
set_option maxRecDepth 100000 in
theorem open_pcs {H : Type} {enc : TypeId × Value → H} {w : World} {b0 : Nat} {v : Value} {d : DataW H} {ps : List MemPlace}
    (hval : Value.okWide Try.prog w .any b0 118 v) (h : DataW.Trod enc Try.prog w 0 (fun _ => true) true 118 v d ps) :
    ∃ A l m, v = .slice A (l : List (Nat × Nat × Nat)).length m ∧ l.length ≤ m ∧ l.length ≤ 9223372036854775807 ∧ Row (fun b => b < w.heap.size) w A l.length 3 (pcs l) ∧ ∀ q ∈ l, q.1 < 256 ∧ q.2.1 < 256 ∧ q.2.2 < 65536 := by
  obtain ⟨A, n, c, rfl, hl, hc, _, q, hq, hr⟩ := open_structs Try.underlying118 Try.underlying204 (by kernel_rfl) (by kernel_rfl) (by decide) hval h
  obtain ⟨t, ht⟩ := Go.Deep.choose_lt (α := Nat × Nat × Nat) (p := fun i t => q i = [.int .u8 (t.1 : Int), .int .u8 (t.2.1 : Int), .int .u16 (t.2.2 : Int)] ∧ t.1 < 256 ∧ t.2.1 < 256 ∧ t.2.2 < 65536) (n := n) fun i hi => by
    obtain ⟨hlen, hf⟩ := hq i hi
    obtain ⟨u0, m0, y0, e0, k0⟩ := hf 0 _ rfl
    obtain ⟨u1, m1, y1, e1, k1⟩ := hf 1 _ rfl
    obtain ⟨u2, m2, y2, e2, k2⟩ := hf 2 _ rfl
    obtain ⟨x0, hx0, _, w0⟩ := DataW.trod_int Try.underlying5 k0
    obtain ⟨x1, hx1, _, w1⟩ := DataW.trod_int Try.underlying5 k1
    obtain ⟨x2, hx2, _, w2⟩ := DataW.trod_int Try.underlying202 k2
    simp only [List.cons.injEq, and_true] at hx0 hx1 hx2
    obtain ⟨z0, rfl, hz0⟩ := wf_byte w0
    obtain ⟨z1, rfl, hz1⟩ := wf_byte w1
    obtain ⟨z2, rfl, hz2⟩ := wf_u16 w2
    refine ⟨(z0, z1, z2), ?_, hz0, hz1, hz2⟩
    apply List.ext_getElem?
    intro j
    match j with
    | 0 => rw [e0, hx0]; rfl
    | 1 => rw [e1, hx1]; rfl
    | 2 => rw [e2, hx2]; rfl
    | j + 3 =>
      rw [List.getElem?_eq_none (by rw [hlen]; show 3 ≤ j + 3; omega)]
      rfl
  have hlen : ((List.range n).map t).length = n := by simp
  refine ⟨A, (List.range n).map t, c, by rw [hlen], by rw [hlen]; exact hl, by rw [hlen]; unfold maxLen at hc; omega, ?_, fun d hd => ?_⟩
  · rw [hlen]
    have e : pcs ((List.range n).map t) = (List.range n).flatMap q := by
      unfold pcs
      rw [List.flatMap_map]
      rw [List.flatMap_def, List.flatMap_def]
      congr 1
      apply List.map_congr_left
      intro i hi
      exact (ht i (List.mem_range.1 hi)).1.symm
    rw [e]
    exact hr
  · obtain ⟨i, hi, rfl⟩ := List.mem_map.1 hd
    exact (ht i (List.mem_range.1 hi)).2
set_option maxRecDepth 100000 in
theorem open_stps {H : Type} {enc : TypeId × Value → H} {w : World} {b0 : Nat} {v : Value} {d : DataW H} {ps : List MemPlace}
    (hval : Value.okWide Try.prog w .any b0 119 v) (h : DataW.Trod enc Try.prog w 0 (fun _ => true) true 119 v d ps) :
    ∃ A l m, v = .slice A (l : List (Nat × Nat)).length m ∧ l.length ≤ m ∧ l.length ≤ 9223372036854775807 ∧ (A = none → m = 0) ∧ Row (fun b => b < w.heap.size) w A l.length 2 (stps l) ∧ ∀ q ∈ l, q.1 < 256 ∧ q.2 < 256 := by
  obtain ⟨A, n, c, rfl, hl, hc, hA, q, hq, hr⟩ := open_structs Try.underlying119 Try.underlying133 (by kernel_rfl) (by kernel_rfl) (by decide) hval h
  obtain ⟨t, ht⟩ := Go.Deep.choose_lt (α := Nat × Nat) (p := fun i t => q i = [.int .u8 (t.1 : Int), .int .u8 (t.2 : Int)] ∧ t.1 < 256 ∧ t.2 < 256) (n := n) fun i hi => by
    obtain ⟨hlen, hf⟩ := hq i hi
    obtain ⟨u0, m0, y0, e0, k0⟩ := hf 0 _ rfl
    obtain ⟨u1, m1, y1, e1, k1⟩ := hf 1 _ rfl
    obtain ⟨x0, hx0, _, w0⟩ := DataW.trod_int Try.underlying5 k0
    obtain ⟨x1, hx1, _, w1⟩ := DataW.trod_int Try.underlying5 k1
    simp only [List.cons.injEq, and_true] at hx0 hx1
    obtain ⟨z0, rfl, hz0⟩ := wf_byte w0
    obtain ⟨z1, rfl, hz1⟩ := wf_byte w1
    refine ⟨(z0, z1), ?_, hz0, hz1⟩
    apply List.ext_getElem?
    intro j
    match j with
    | 0 => rw [e0, hx0]; rfl
    | 1 => rw [e1, hx1]; rfl
    | j + 2 =>
      rw [List.getElem?_eq_none (by rw [hlen]; show 2 ≤ j + 2; omega)]
      rfl
  have hlen : ((List.range n).map t).length = n := by simp
  refine ⟨A, (List.range n).map t, c, by rw [hlen], by rw [hlen]; exact hl, by rw [hlen]; unfold maxLen at hc; omega, hA, ?_, fun d hd => ?_⟩
  · rw [hlen]
    have e : stps ((List.range n).map t) = (List.range n).flatMap q := by
      unfold stps
      rw [List.flatMap_map]
      rw [List.flatMap_def, List.flatMap_def]
      congr 1
      apply List.map_congr_left
      intro i hi
      exact (ht i (List.mem_range.1 hi)).1.symm
    rw [e]
    exact hr
  · obtain ⟨i, hi, rfl⟩ := List.mem_map.1 hd
    exact (ht i (List.mem_range.1 hi)).2
end Go.Proofs.Ck
