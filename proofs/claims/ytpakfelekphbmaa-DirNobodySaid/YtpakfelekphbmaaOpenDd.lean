/- Arguments opened: a slice of deeds of the directory. -/
import Derived.Test.YtpakfelekphbmaaOpenS
import Derived.Test.YtpakfelekphbmaaDirL2
import Derived.Lib.SmallJoins
namespace Go.Proofs.Ck
open Go Go.RowKit Go.ChangeShapes Go.WideShapes Go.ChangeAt

set_option maxRecDepth 100000 in
theorem open_dd {H : Type} {enc : TypeId × Value → H} {w : World} {b0 : Nat} {v : Value} {d : DataW H} {ps : List MemPlace}
    (hval : Value.okWide Try.prog w .any b0 144 v) (h : DataW.Trod enc Try.prog w 0 (fun _ => true) true 144 v d ps) :
    ∃ A l m, v = .slice A (l : List Dd).length m ∧ l.length ≤ 9223372036854775807 ∧ Row (fun b => b < w.heap.size) w A l.length 3 (ddeeds l) ∧ ∀ d ∈ l, d.2.2 < 18446744073709551616 := by
  obtain ⟨A, n, c, rfl, hl, hc, _, q, hq, hr⟩ := open_structs Try.underlying144 Try.underlying160 (by kernel_rfl) (by kernel_rfl) (by decide) hval h
  obtain ⟨t, ht⟩ := Go.Deep.choose_lt (α := Dd) (p := fun i t => q i = [.bool t.1, .string t.2.1, .int .u64 (t.2.2 : Int)] ∧ t.2.2 < 18446744073709551616) (n := n) fun i hi => by
    obtain ⟨hlen, hf⟩ := hq i hi
    obtain ⟨u0, m0, y0, e0, k0⟩ := hf 0 _ rfl
    obtain ⟨u1, m1, y1, e1, k1⟩ := hf 1 _ rfl
    obtain ⟨u2, m2, y2, e2, k2⟩ := hf 2 _ rfl
    obtain ⟨x0, hx0, _⟩ := DataW.trod_bool Try.underlying4 k0
    obtain ⟨x1, hx1, _, _⟩ := DataW.trod_string Try.underlying9 k1
    obtain ⟨x2, hx2, _, w2⟩ := DataW.trod_int Try.underlying22 k2
    simp only [List.cons.injEq, and_true] at hx0 hx1 hx2
    obtain ⟨z, rfl, hz⟩ := wf_u64 w2
    refine ⟨(x0, x1, z), ?_, hz⟩
    apply List.ext_getElem?
    intro j
    match j with
    | 0 => rw [e0, hx0]; rfl
    | 1 => rw [e1, hx1]; rfl
    | 2 => rw [e2, hx2]; rfl
    | j + 3 =>
      rw [List.getElem?_eq_none (by rw [hlen]; show 3 ≤ j + 3; omega)]
      rfl
  have hlen : ((List.range n).map t).length = n := by simp
  refine ⟨A, (List.range n).map t, c, by rw [hlen], by rw [hlen]; unfold maxLen at hc; omega, ?_, fun d hd => ?_⟩
  · rw [hlen]
    have e : ddeeds ((List.range n).map t) = (List.range n).flatMap q := by
      unfold ddeeds
      rw [List.flatMap_map]
      rw [List.flatMap_def, List.flatMap_def]
      congr 1
      apply List.map_congr_left
      intro i hi
      exact (ht i (List.mem_range.1 hi)).1.symm
    rw [e]
    exact hr
  · obtain ⟨i, hi, rfl⟩ := List.mem_map.1 hd
    exact (ht i (List.mem_range.1 hi)).2

set_option maxRecDepth 100000 in
theorem open_dd1 {H : Type} {enc : TypeId × Value → H} {w : World} {b0 : Nat} {v : Value} {d : DataW H} {ps : List MemPlace}
    (hval : Value.okWide Try.prog w .any b0 160 v) (h : DataW.Trod enc Try.prog w 0 (fun _ => true) true 160 v d ps) :
    ∃ (b : Bool) (s : ByteArray) (o : Nat), v = .agg #[.bool b, .string s, .int .u64 (o : Int)] ∧ o < 18446744073709551616 := by
  obtain ⟨v0, v1, v2, y0, y1, y2, n, rfl, _, _, h0, h1, h2⟩ := Joins.open_agg3 Try.underlying160 (by kernel_rfl) (by kernel_rfl) hval h
  obtain ⟨x, hx0, _⟩ := DataW.trod_bool Try.underlying4 h0
  obtain ⟨y, hy0, _, _⟩ := DataW.trod_string Try.underlying9 h1
  obtain ⟨z, hz0, _, w2⟩ := DataW.trod_int Try.underlying22 h2
  simp only [List.cons.injEq, and_true] at hx0 hy0 hz0
  obtain ⟨o, rfl, ho⟩ := wf_u64 w2
  exact ⟨x, y, o, by rw [hx0, hy0, hz0], ho⟩
end Go.Proofs.Ck
