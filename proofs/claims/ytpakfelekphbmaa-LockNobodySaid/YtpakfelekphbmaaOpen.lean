/- Arguments opened: pairs and arrays of two integers by value. -/
import Derived.Test.YtpakfelekphbmaaJoin
import Derived.Lib.SmallJoins
namespace Go.Proofs.Ck
open Go Go.RowKit Go.ChangeShapes Go.WideShapes Go.ChangeAt

section
variable {H : Type} {enc : TypeId × Value → H} {P : Program} {w : World} {base : Nat} {spare : Nat → Bool} {held : Bool}

theorem open_ints2 {r : Reach} {b0 : Nat} {t e : TypeId} {k : IntKind} {v : Value} {d : DataW H} {p : List MemPlace} (ht : P.underlying t = some (.array 2 e)) (he : P.underlying e = some (.int k)) (hc : P.cellsOf e = 1) (hC : P.cellsOf t = 2)
    (hv : Value.okWide P w r b0 t v) (h : DataW.Trod enc P w base spare held t v d p) :
    ∃ x y : Int, v = .agg #[.int k x, .int k y] ∧ (Lit.int k x).wf = true ∧ (Lit.int k y).wf = true := by
  simp only [Value.okWide, ht] at hv
  obtain ⟨cs, rfl, hsz, _⟩ := hv
  obtain ⟨c0, c1, rfl⟩ := Joins.array2 (hsz.trans hC)
  obtain ⟨fuel, hf⟩ := h
  obtain ⟨xs, m, _, _, _, hl, hx⟩ := DataW.trod_array ht hf
  match xs, hl with
  | [y0, y1], _ =>
    have h0 := hx 0 (by omega)
    have h1 := hx 1 (by omega)
    simp [hc, Value.cells] at h0 h1
    obtain ⟨x, hx0, _, w0⟩ := DataW.trod_int he h0
    obtain ⟨y, hy0, _, w1⟩ := DataW.trod_int he h1
    simp only [List.cons.injEq, and_true] at hx0 hy0
    exact ⟨x, y, by rw [hx0, hy0], w0, w1⟩

theorem open_pair {r : Reach} {b0 : Nat} {t : TypeId} {f0 f1 : Field} {k0 k1 : IntKind} {v : Value} {d : DataW H} {p : List MemPlace} (hs : P.underlying t = some (.struct #[f0, f1])) (hone : Deep.oneCellFields P #[f0, f1] = true) (hC : P.cellsOf t = 2)
    (u0 : P.underlying f0.type = some (.int k0)) (u1 : P.underlying f1.type = some (.int k1))
    (hv : Value.okWide P w r b0 t v) (h : DataW.Trod enc P w base spare held t v d p) :
    ∃ x y : Int, v = .agg #[.int k0 x, .int k1 y] ∧ (Lit.int k0 x).wf = true ∧ (Lit.int k1 y).wf = true := by
  obtain ⟨v0, v1, y0, y1, n, rfl, _, _, h0, h1⟩ := Joins.open_agg2 hs hone hC hv h
  obtain ⟨x, hx0, _, w0⟩ := DataW.trod_int u0 h0
  obtain ⟨y, hy0, _, w1⟩ := DataW.trod_int u1 h1
  simp only [List.cons.injEq, and_true] at hx0 hy0
  exact ⟨x, y, by rw [hx0, hy0], w0, w1⟩
end
end Go.Proofs.Ck
