/- Arguments opened: a slice of truths. -/
import Derived.Test.YtpakfelekphbmaaGLaw
import Derived.Test.YtpakfelekphbmaaGSeg
import Derived.Deep.Slices
namespace Go.Proofs.Ck
open Go Go.RowKit Go.ChangeShapes Go.WideShapes Go.ChangeAt

def bls (l : List Bool) : List Value := l.map Value.bool
theorem bls_length (l : List Bool) : (bls l).length = l.length := List.length_map _
theorem bls_get {l : List Bool} {i : Nat} (h : i < l.length) : (bls l)[i]? = some (.bool (l.getD i false)) := by
  unfold bls
  rw [List.getElem?_map, List.getElem?_eq_getElem h, List.getD_eq_getElem?_getD, List.getElem?_eq_getElem h]
  rfl
set_option maxRecDepth 100000 in
theorem open_bls {H : Type} {enc : TypeId × Value → H} {w : World} {b0 : Nat} {t e : TypeId} {v : Value} {d : DataW H} {ps : List MemPlace}
    (ht : Try.prog.underlying t = some (.slice e)) (ce : Try.prog.cellsOf e = 1) (ue : Try.prog.underlying e = some .bool)
    (hval : Value.okWide Try.prog w .any b0 t v) (h : DataW.Trod enc Try.prog w 0 (fun _ => true) true t v d ps) :
    ∃ A l c, v = .slice A (l : List Bool).length c ∧ l.length ≤ maxLen ∧ Row (fun b => b < w.heap.size) w A l.length 1 (bls l) := by
  obtain ⟨A, n, c, rfl⟩ := okWide_slice ht hval
  obtain ⟨fuel, hf⟩ := h
  rcases Go.Deep.open_slice1 ht ce hf with ⟨h0, _⟩ | ⟨a, len, cap, m, nn, V, D, P, h0, _, hl, hc, hm, hx, hcell⟩
  · simp only [Value.cells, List.cons.injEq, Value.slice.injEq, and_true] at h0
    obtain ⟨rfl, rfl, rfl⟩ := h0
    exact ⟨none, [], 0, rfl, Nat.zero_le _, Row.empty⟩
  · simp only [Value.cells, List.cons.injEq, Value.slice.injEq, and_true] at h0
    obtain ⟨rfl, rfl, rfl⟩ := h0
    simp only [if_true] at hm
    subst hm
    obtain ⟨q, hq⟩ := Go.Deep.choose_lt (α := Bool) (p := fun i q => w.cell? (a.add i) = some (.bool q)) (n := n) fun i hi => by
      obtain ⟨h3, h1⟩ := hcell i (by omega)
      obtain ⟨x, hx1, _⟩ := DataW.trod_bool ue h1
      simp only [List.cons.injEq, and_true] at hx1
      exact ⟨x, by rw [h3, hx1]⟩
    have hlen : ((List.range n).map q).length = n := by simp
    refine ⟨some a, (List.range n).map q, _, by rw [hlen], by rw [hlen]; omega, by rw [bls_length, hlen, Nat.mul_one], fun hp => ?_⟩
    · rw [bls_length, hlen] at hp
      have hn : 0 < n := by omega
      obtain ⟨ab, ao, sp⟩ := a
      have h0 := hq 0 hn
      have has : sp = none := by
        cases sp with
        | none => rfl
        | some s =>
          simp [Addr.add, World.cell?] at h0
          split at h0 <;> simp_all
      subst has
      have hadd : ∀ k, (⟨ab, ao, none⟩ : Addr).add k = ⟨ab, ao + k, none⟩ := fun k => by unfold Addr.add; split <;> simp_all
      refine ⟨ab, ao, rfl, lt_of_cell (a := ⟨ab, ao, none⟩) (by simpa [Addr.add] using h0), fun j u hj => ?_⟩
      have hj' := (List.getElem?_eq_some_iff.1 hj).1
      rw [bls_length, hlen] at hj'
      have hg := bls_get (l := (List.range n).map q) (i := j) (by rw [hlen]; exact hj')
      have hgd : ((List.range n).map q).getD j false = q j := by simp [List.getD_eq_getElem?_getD, hj']
      rw [hgd, hj] at hg
      cases hg
      have hc2 := hq j hj'
      rw [hadd] at hc2
      exact hc2
end Go.Proofs.Ck
