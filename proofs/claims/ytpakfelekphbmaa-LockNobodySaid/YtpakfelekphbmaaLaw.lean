/- The frame of a law of this seat: it returns true, and what was there is as it was. -/
import Derived.Test.YtpakfelekphbmaaFill0
import Derived.Test.YtpakfelekphbmaaRows
import Derived.ProofKit
import Derived.OpenShut
import Derived.Carry
import Derived.Deep.SlicePairs
namespace Go.Proofs.Ck
open Go Go.RowKit Go.ChangeShapes Go.WideShapes Go.ChangeAt
open Go.Proofs.Ytpakfelekphbmaa

theorem own : ownKnob Try.prog.godebug = none := by kernel_rfl

section
variable {H : Type} {enc : TypeId × Value → H} {P : Program}

theorem trodAll_below (hl : laidOutB P = true) {W W' : World} (hb : Below W.heap.size W W') : ∀ {ts : List TypeId} {vs : List Value} {ds : List (DataW H)} {ps : List MemPlace},
    (ts.all fun t => P.readableRec t && decide (t < P.types.size)) = true → (∀ x ∈ ps, x.block < W.heap.size) → DataW.TrodAll enc P W 0 (fun _ => true) true ts vs ds ps →
    DataW.TrodAll enc P W' 0 (fun b => decide (b < W.heap.size)) true ts vs ds ps
  | [], [], [], _, _, _, h => h
  | [], _ :: _, _, _, _, _, h => h.elim
  | [], [], _ :: _, _, _, _, h => h.elim
  | _ :: _, [], _, _, _, _, h => h.elim
  | _ :: _, _ :: _, [], _, _, _, h => h.elim
  | t :: ts, v :: vs, d :: ds, ps, hr, hp, h => by
    obtain ⟨p, q, h1, h2, rfl⟩ := h
    simp only [List.all_cons, Bool.and_eq_true, decide_eq_true_eq] at hr
    exact ⟨p, q, Below.trod hl hr.1.1 hr.1.2 h1 hb (fun x hx => hp x (by simp [hx])), trodAll_below hl hb (by simpa using hr.2) (fun x hx => hp x (by simp [hx])) h2, rfl⟩

theorem trodAll_length {w : World} {b : Nat} {sp : Nat → Bool} {hd : Bool} : ∀ {ts : List TypeId} {vs : List Value} {ds : List (DataW H)} {ps : List MemPlace}, DataW.TrodAll enc P w b sp hd ts vs ds ps → ds.length = ts.length
  | [], _, _, _, h => by obtain ⟨_, rfl, _⟩ := trodAll_nil h; rfl
  | t :: ts, _, _, _, h => by
    obtain ⟨v, vs', d, ds', p', q', rfl, rfl, rfl, _, r⟩ := trodAll_cons h
    simp [trodAll_length r]

/-- The post of a law: true comes back, every block that was there is as it was. -/
theorem law_post {f : Func} {s : ChangeSpec} {W W' : World} {args : Array Value} {ds gs : List (DataW H)} {before : List MemPlace} {t : TypeId}
    (hl : laidOutB P = true) (hts : (f.params.toList.all fun t => P.readableRec t && decide (t < P.types.size)) = true) (hv : s.vars = [])
    (hrt : f.resultTypes = #[t]) (ht : P.underlying t = some .bool)
    (hr : (s.fn H (ds ++ gs)).results = [.lit (.bool true)]) (ha : (s.fn H (ds ++ gs)).args = ds) (hvv : (s.fn H (ds ++ gs)).vars = [])
    (hW : DataW.Whole enc P f.params.toList s.vars false W args.toList ds gs before) (hb : Below W.heap.size W W') :
    s.post enc P f false true false false W args (.bool true) W' := by
  have hlt : ∀ p ∈ before, p.block < W.heap.size := fun p hp => hW.lt p hp
  have hW' := hW
  obtain ⟨p, q, h1, h2, rfl, _, _⟩ := hW
  rw [hv] at h2
  obtain ⟨rfl, rfl⟩ := trodVars_none h2
  refine ⟨ds, [], p ++ [], [], p, [], hW', ?_, ?_, ?_, hb.frame _, fun h => by cases h⟩
  · rw [hr, hrt]
    exact trodAll_mk1 (shut_bool ht _)
  · rw [ha]
    exact trodAll_below hl hb hts (fun x hx => hlt x (by simp [hx])) h1
  · rw [hvv, hv]
    rfl
end

set_option maxRecDepth 100000 in
theorem laid_out : laidOutB Try.prog = true := by kernel_rfl

set_option maxRecDepth 100000 in
/-- The law's row from its walk. -/
theorem law_lifted {f : FuncId} {fn : Func} {s : ChangeSpec} {os : Os} {H : Type} {enc : TypeId × Value → H} (started : os.Started) (noInit : Try.checked.prog.inits.idxOf? f = none) (hfn : Try.prog.funcs[f]? = some fn)
    (hts : (fn.params.toList.all fun t => Try.prog.readableRec t && decide (t < Try.prog.types.size)) = true) (hv : s.vars = []) (hrt : fn.resultTypes = #[4])
    (hs : ∀ ds : List (DataW H), ds.length = fn.params.toList.length → (s.fn H (ds ++ [])).results = [.lit (.bool true)] ∧ (s.fn H (ds ++ [])).args = ds ∧ (s.fn H (ds ++ [])).vars = [])
    (witness : ∃ (w : World) (tape : Tape) (i : Input), w.os = os ∧ (w.forCall tape i).Shaped Try.prog ∧ i.vars = [] ∧ Input.okWide Try.prog (w.forCall tape i) .any w.heap.size f i ∧
      s.pre6 enc Try.prog fn [] false (w.forCall tape i).memory i.args ∧ (({} : Assume)).holds Try.prog (lone (Frame.enter Try.prog f i.args .normal) [] (w.forCall tape i)))
    (walk : ∀ (W : World) (base : Nat) (args : Array Value) (ds : List (DataW H)) (ps : List MemPlace),
      (∀ (j : Nat) t v, fn.params[j]? = some t → args[j]? = some v → Value.okWide Try.prog W .any base t v) →
      DataW.TrodAll enc Try.prog W 0 (fun _ => true) true fn.params.toList args.toList ds ps → (∀ x ∈ ps, x.block < W.heap.size) →
      (∀ b off, MemPlace.cell b off ∈ ps → W.frozen? ⟨b, off, none⟩ = false) →
      Calls Try.prog f args W fun e W' => e = .returned (.bool true) ∧ Grow W W') :
    ReturnsInHanded {} Try.checked os f .any (s.pre6 enc Try.prog fn [] false) (s.post enc Try.prog fn false true false false) := by
  refine returnsInHanded_of_change (C := Try.checked) own started noInit hfn witness ?_
  intro W base args ds gs before hval hW _ _
  have hlt : ∀ p ∈ before, p.block < W.heap.size := fun p hp => hW.lt p hp
  have hW' := hW
  obtain ⟨p, q, h1, h2, rfl, hfz, _⟩ := hW
  rw [hv] at h2
  obtain ⟨rfl, rfl⟩ := trodVars_none h2
  have hlen : ds.length = fn.params.toList.length := trodAll_length h1
  refine (walk W base args ds p hval h1 (fun x hx => hlt x (by simp [hx])) (fun b off hm => hfz b off (by simp [hm]))).mono fun e W' ⟨he, hg⟩ => ?_
  obtain ⟨e1, e2, e3⟩ := hs ds hlen
  exact ⟨_, he, law_post laid_out hts hv hrt Try.underlying4 e1 e2 e3 hW' hg⟩

theorem wf_u64 {n : Int} (h : (Lit.int .u64 n).wf = true) : ∃ x : Nat, n = (x : Int) ∧ x < 18446744073709551616 := by
  simp [Lit.wf, IntKind.min, IntKind.max, IntKind.signed, IntKind.bits] at h
  exact ⟨n.toNat, by omega, by omega⟩
theorem lt_of_cell {w : World} {a : Addr} {v : Value} (h : w.cell? a = some v) : a.block < w.heap.size := by
  obtain ⟨o, ho, -⟩ := cells_of_cell h
  exact lt_of_heap ho

set_option maxRecDepth 100000 in
/-- A slice of pairs of words, opened. -/
theorem open_puts {H : Type} {enc : TypeId × Value → H} {w : World} {b0 : Nat} {t e : TypeId} {f0 f1 : Field} {v : Value} {d : DataW H} {ps : List MemPlace}
    (ht : Try.prog.underlying t = some (.slice e)) (he : Try.prog.underlying e = some (.struct #[f0, f1]))
    (ce : Try.prog.cellsOf e = 2) (o0 : f0.offset = 0) (o1 : f1.offset = 1) (c0 : Try.prog.cellsOf f0.type = 1) (c1 : Try.prog.cellsOf f1.type = 1)
    (u0 : Try.prog.underlying f0.type = some (.int .u64)) (u1 : Try.prog.underlying f1.type = some (.int .u64))
    (hval : Value.okWide Try.prog w .any b0 t v) (h : DataW.Trod enc Try.prog w 0 (fun _ => true) true t v d ps) :
    ∃ A l c, v = .slice A (l : List (Nat × Nat)).length c ∧ l.length ≤ c ∧ l.length ≤ maxLen ∧ (A = none → c = 0) ∧
      Puts (fun b => b < w.heap.size) w A l ∧ ∀ p ∈ l, p.1 < 18446744073709551616 ∧ p.2 < 18446744073709551616 := by
  obtain ⟨A, n, c, rfl⟩ := okWide_slice ht hval
  obtain ⟨fuel, hf⟩ := h
  rcases Go.Deep.open_slice_pairs ht he ce o0 o1 c0 c1 hf with ⟨h0, _⟩ | ⟨a, len, cap, m, nn, V0, V1, D0, D1, P0, P1, h0, _, hl, hc, hm, hx, hcell⟩
  · simp only [Value.cells, List.cons.injEq, Value.slice.injEq, and_true] at h0
    obtain ⟨rfl, rfl, rfl⟩ := h0
    exact ⟨none, [], 0, rfl, Nat.le_refl _, Nat.zero_le _, fun _ => rfl, Row.empty, fun p hp => by cases hp⟩
  · simp only [Value.cells, List.cons.injEq, Value.slice.injEq, and_true] at h0
    obtain ⟨rfl, rfl, rfl⟩ := h0
    simp only [if_true] at hm
    subst hm
    obtain ⟨q, hq⟩ := Go.Deep.choose_lt (α := Nat × Nat) (p := fun i q => w.cell? (a.add (i * 2)) = some (.int .u64 (q.1 : Int)) ∧ w.cell? (a.add (i * 2 + 1)) = some (.int .u64 (q.2 : Int)) ∧ q.1 < 18446744073709551616 ∧ q.2 < 18446744073709551616) (n := n) fun i hi => by
      obtain ⟨h3, h4, h1, h2⟩ := hcell i (by omega)
      obtain ⟨x, hx1, _, hx2⟩ := DataW.trod_int u0 h1
      obtain ⟨y, hy1, _, hy2⟩ := DataW.trod_int u1 h2
      simp only [List.cons.injEq, and_true] at hx1 hy1
      obtain ⟨X, rfl, hX⟩ := wf_u64 hx2
      obtain ⟨Y, rfl, hY⟩ := wf_u64 hy2
      exact ⟨(X, Y), by rw [h3, hx1], by rw [h4, hy1], hX, hY⟩
    have hlen : ((List.range n).map q).length = n := by simp
    refine ⟨some a, (List.range n).map q, _, by rw [hlen], by rw [hlen]; exact hl, by rw [hlen]; omega, fun h => by (first | cases h), ⟨puts_length _, fun hp => ?_⟩, ?_⟩
    · rw [puts_length, hlen] at hp
      have hn : 0 < n := by omega
      obtain ⟨ab, ao, sp⟩ := a
      have h0 := (hq 0 hn).1
      have has : sp = none := by
        cases sp with
        | none => rfl
        | some s =>
          simp [Addr.add, World.cell?] at h0
          split at h0 <;> simp_all
      subst has
      refine ⟨ab, ao, rfl, lt_of_cell (a := ⟨ab, ao, none⟩) (by simpa [Addr.add] using h0), fun j u hj => ?_⟩
      have hj' := (List.getElem?_eq_some_iff.1 hj).1
      rw [puts_length, hlen] at hj'
      have hd : j / 2 < ((List.range n).map q).length := by rw [hlen]; omega
      have hg := puts_get hd
      have hgd : ((List.range n).map q).getD (j / 2) (0, 0) = q (j / 2) := by simp [List.getD_eq_getElem?_getD, show j / 2 < n by omega]
      rw [hgd] at hg
      have hc2 := hq (j / 2) (by omega)
      have hadd : ∀ k, (⟨ab, ao, none⟩ : Addr).add k = ⟨ab, ao + k, none⟩ := fun k => by unfold Addr.add; split <;> simp_all
      rw [hadd, hadd] at hc2
      rcases Nat.mod_two_eq_zero_or_one j with h | h
      · have e : j / 2 * 2 = j := by omega
        rw [e] at hc2 hg
        rw [hg.1] at hj
        cases hj
        exact hc2.1
      · have e : j / 2 * 2 + 1 = j := by omega
        rw [e] at hc2 hg
        rw [hg.2] at hj
        cases hj
        exact hc2.2.1
    · intro p hp
      obtain ⟨i, hi, rfl⟩ := List.mem_map.1 hp
      exact (hq i (List.mem_range.1 hi)).2.2
end Go.Proofs.Ck
