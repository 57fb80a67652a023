/- Arguments opened: slices of structs of one-cell fields; slices of single cells. -/
import Derived.Test.YtpakfelekphbmaaGLaw
import Derived.Deep.Slices
namespace Go.Proofs.Ck
open Go Go.RowKit Go.ChangeShapes Go.WideShapes Go.ChangeAt

/-- Lists of equal length, one behind the other. -/
theorem flat_get {q : Nat → List Value} {k : Nat} : ∀ {n : Nat}, (∀ i, i < n → (q i).length = k) → ∀ {i j : Nat}, i < n → j < k → ((List.range n).flatMap q)[i * k + j]? = (q i)[j]?
  | 0, _, _, _, h, _ => by omega
  | n + 1, hq, i, j, hi, hj => by
    rw [List.range_succ, List.flatMap_append]
    have hlen : ((List.range n).flatMap q).length = n * k := by
      clear hi hj i j
      induction n with
      | zero => simp
      | succ n ih =>
        rw [List.range_succ, List.flatMap_append, List.length_append, ih (fun i h => hq i (by omega))]
        simp [hq n (by omega), Nat.succ_mul]
    by_cases h : i < n
    · have : i * k + k ≤ n * k := by rw [← Nat.succ_mul]; exact Nat.mul_le_mul_right _ h
      rw [List.getElem?_append_left (by omega)]
      exact flat_get (fun i h => hq i (by omega)) h hj
    · obtain rfl : i = n := by omega
      rw [List.getElem?_append_right (by omega), hlen, Nat.add_sub_cancel_left]
      simp
theorem flat_length {q : Nat → List Value} {k : Nat} : ∀ {n : Nat}, (∀ i, i < n → (q i).length = k) → ((List.range n).flatMap q).length = n * k
  | 0, _ => by simp
  | n + 1, hq => by
    rw [List.range_succ, List.flatMap_append, List.length_append, flat_length (fun i h => hq i (by omega))]
    simp [hq n (by omega), Nat.succ_mul]

section
variable {H : Type} {enc : TypeId × Value → H} {P : Program} {w : World}
/-- A slice of structs of one-cell fields. -/
theorem open_structs {b0 : Nat} {t e : TypeId} {fs : Array Field} {v : Value} {d : DataW H} {ps : List MemPlace}
    (ht : P.underlying t = some (.slice e)) (he : P.underlying e = some (.struct fs)) (hone : Deep.oneCellFields P fs = true) (ce : P.cellsOf e = fs.size) (hpos : 0 < fs.size)
    (hval : Value.okWide P w .any b0 t v) (h : DataW.Trod enc P w 0 (fun _ => true) true t v d ps) :
    ∃ A n c, v = .slice A n c ∧ n ≤ c ∧ c ≤ maxLen ∧ (A = none → c = 0) ∧ ∃ q : Nat → List Value, (∀ i, i < n → (q i).length = fs.size ∧ ∀ (j : Nat) (f : Field), fs[j]? = some f → ∃ u m y, (q i)[j]? = some u ∧ DataW.trod enc P w 0 (fun _ => true) true m f.type [u] = some y) ∧
      Row (fun b => b < w.heap.size) w A n fs.size ((List.range n).flatMap q) := by
  obtain ⟨A, n, c, rfl⟩ := okWide_slice ht hval
  obtain ⟨fuel, hf⟩ := h
  rcases Go.Deep.open_slice ht hf with ⟨h0, _⟩ | ⟨a, len, cap, m, nn, D, Pl, h0, _, hl, hc, hm, hx, hcell⟩
  · simp only [Value.cells, List.cons.injEq, Value.slice.injEq, and_true] at h0
    obtain ⟨rfl, rfl, rfl⟩ := h0
    exact ⟨none, 0, 0, rfl, Nat.le_refl _, Nat.zero_le _, fun _ => rfl, fun _ => [], fun i hi => by omega, Row.empty⟩
  · simp only [Value.cells, List.cons.injEq, Value.slice.injEq, and_true] at h0
    obtain ⟨rfl, rfl, rfl⟩ := h0
    simp only [if_true] at hm
    subst hm
    obtain ⟨q, hq⟩ := Go.Deep.choose_lt (α := List Value) (p := fun i cs => (cs.length = fs.size ∧ ∀ j, j < fs.size → w.cell? (a.add (i * fs.size + j)) = cs[j]?) ∧ ∀ (j : Nat) (f : Field), fs[j]? = some f → ∃ u m y, cs[j]? = some u ∧ DataW.trod enc P w 0 (fun _ => true) true m f.type [u] = some y) (n := n) fun i hi => by
      obtain ⟨cs', h3, h4⟩ := hcell i (by omega)
      obtain ⟨_, hlen, hcs⟩ := World.cells?_some h3
      obtain ⟨xs, k, _, _, _, hxl, hf2⟩ := DataW.trod_struct he h4
      rw [ce] at hlen hcs
      refine ⟨cs', ⟨hlen, fun j hj => ?_⟩, fun j f hjf => ?_⟩
      · rw [← hcs j hj, Deep.add_add]
      · have hj : j < fs.size := (Array.getElem?_eq_some_iff.1 hjf).1
        obtain ⟨o1, c1⟩ := Deep.hone_of hone j f hjf
        have h5 := hf2 j f hjf
        rw [o1, c1, List.getElem?_eq_getElem (show j < xs.length by omega)] at h5
        rw [List.drop_eq_getElem_cons (by omega), List.take_succ_cons, List.take_zero] at h5
        exact ⟨_, _, _, List.getElem?_eq_getElem (by omega), h5⟩
    refine ⟨some a, n, _, rfl, hl, hc, (fun h => by cases h), q, fun i hi => ⟨(hq i hi).1.1, (hq i hi).2⟩, ⟨flat_length fun i hi => (hq i hi).1.1, fun hp => ?_⟩⟩
    rw [flat_length fun i hi => (hq i hi).1.1] at hp
    have hn : 0 < n := Nat.pos_of_mul_pos_right hp
    obtain ⟨ab, ao, sp⟩ := a
    have hc0 := (hq 0 hn).1.2 0 hpos
    have hs0 : ∃ u, (q 0)[0]? = some u := ⟨_, List.getElem?_eq_getElem (by rw [(hq 0 hn).1.1]; exact hpos)⟩
    obtain ⟨u0, hu0⟩ := hs0
    rw [hu0] at hc0
    have has : sp = none := by
      cases sp with
      | none => rfl
      | some s =>
        simp [Addr.add, World.cell?] at hc0
        split at hc0 <;> simp_all
    subst has
    have hadd : ∀ k, (⟨ab, ao, none⟩ : Addr).add k = ⟨ab, ao + k, none⟩ := fun k => by unfold Addr.add; split <;> simp_all
    rw [hadd] at hc0
    refine ⟨ab, ao, rfl, lt_of_cell (a := ⟨ab, _, none⟩) hc0, fun j u hj => ?_⟩
    have hj' := (List.getElem?_eq_some_iff.1 hj).1
    rw [flat_length fun i hi => (hq i hi).1.1] at hj'
    have hd : j / fs.size < n := Nat.div_lt_of_lt_mul (by rw [Nat.mul_comm]; exact hj')
    have hr : j % fs.size < fs.size := Nat.mod_lt _ hpos
    have e : j / fs.size * fs.size + j % fs.size = j := by rw [Nat.mul_comm]; exact Nat.div_add_mod _ _
    have h1 := (hq _ hd).1.2 _ hr
    have h2 := flat_get (fun i hi => (hq i hi).1.1) hd hr
    rw [e, hj] at h2
    rw [e, hadd, ← h2] at h1
    exact h1
end
end Go.Proofs.Ck
