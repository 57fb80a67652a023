/- The frame of a law whose walk leans on the form's own reach. -/
import Derived.Test.YtpakfelekphbmaaGLaw
import Derived.SizedLaws
namespace Go.Proofs.Ck
open Go Go.RowKit Go.ChangeShapes Go.WideShapes Go.ChangeAt
open Go.Proofs.Ytpakfelekphbmaa

set_option maxRecDepth 100000 in
/-- The law's row from its walk, the reach handed on. -/
theorem law_lifted_sized {f : FuncId} {fn : Func} {s : ChangeSpec} {os : Os} {H : Type} {enc : TypeId × Value → H} (started : os.Started) (noInit : Try.checked.prog.inits.idxOf? f = none) (hfn : Try.prog.funcs[f]? = some fn)
    (hts : (fn.params.toList.all fun t => Try.prog.readableRec t && decide (t < Try.prog.types.size)) = true) (hv : s.vars = []) (hrt : fn.resultTypes = #[4])
    (hs : ∀ ds : List (DataW H), ds.length = fn.params.toList.length → (s.fn H (ds ++ [])).results = [.lit (.bool true)] ∧ (s.fn H (ds ++ [])).args = ds ∧ (s.fn H (ds ++ [])).vars = [])
    (witness : ∃ (w : World) (tape : Tape) (i : Input), w.os = os ∧ (w.forCall tape i).Shaped Try.prog ∧ i.vars = [] ∧ Input.okWide Try.prog (w.forCall tape i) .any w.heap.size f i ∧
      s.pre6 enc Try.prog fn [] false (w.forCall tape i).memory i.args ∧ (({} : Assume)).holds Try.prog (lone (Frame.enter Try.prog f i.args .normal) [] (w.forCall tape i)))
    (walk : ∀ (W : World) (base : Nat) (args : Array Value) (ds : List (DataW H)) (ps : List MemPlace),
      (∀ (j : Nat) t v, fn.params[j]? = some t → args[j]? = some v → Value.okWide Try.prog W .any base t v) →
      DataW.TrodAll enc Try.prog W 0 (fun _ => true) true fn.params.toList args.toList ds ps → (∀ x ∈ ps, x.block < W.heap.size) →
      (∀ b off, MemPlace.cell b off ∈ ps → W.frozen? ⟨b, off, none⟩ = false) →
      (DataW.weightsEach Try.prog fn.params.toList ds).all (· ≤ reachBytes) = true →
      Calls Try.prog f args W fun e W' => e = .returned (.bool true) ∧ Grow W W') :
    ReturnsInHanded {} Try.checked os f .any (s.pre6 enc Try.prog fn [] false) (s.post enc Try.prog fn false true false false) := by
  refine returnsInHanded_of_change_sized (C := Try.checked) own started noInit hfn witness ?_
  intro W base args ds gs before hval hW _ hsz _
  have hlt : ∀ p ∈ before, p.block < W.heap.size := fun p hp => hW.lt p hp
  have hW' := hW
  obtain ⟨p, q, h1, h2, rfl, hfz, _⟩ := hW
  rw [hv] at h2
  obtain ⟨rfl, rfl⟩ := trodVars_none h2
  have hlen : ds.length = fn.params.toList.length := trodAll_length h1
  have hvt : s.plain.varTypes Try.prog = [] := by unfold DataSpec.varTypes ChangeSpec.plain; rw [hv]; rfl
  have hsz' : (DataW.weightsEach Try.prog fn.params.toList ds).all (· ≤ reachBytes) = true := by
    have e : fn.params.toList ++ s.plain.varTypes Try.prog = fn.params.toList := by rw [hvt, List.append_nil]
    have e2 : ds ++ ([] : List (DataW H)) = ds := List.append_nil _
    rw [← e, ← e2]
    exact hsz
  refine (walk W base args ds p hval h1 (fun x hx => hlt x (by simp [hx])) (fun b off hm => hfz b off (by simp [hm])) hsz').mono fun e W' ⟨he, hg⟩ => ?_
  obtain ⟨e1, e2, e3⟩ := hs ds hlen
  exact ⟨_, he, law_post laid_out hts hv hrt Try.underlying4 e1 e2 e3 hW' hg⟩
/-- How many elements a slice's datum has. -/
theorem trod_len {H : Type} {enc : TypeId × Value → H} {P : Program} {w : World} {t e : TypeId} {A : Option Addr} {n c : Nat} {d : DataW H} {ps : List MemPlace}
    (ht : P.underlying t = some (.slice e)) (h : DataW.Trod enc P w 0 (fun _ => true) true t (.slice A n c) d ps) : n = 0 ∨ ∃ el sp, d = .slice el sp ∧ el.length = n := by
  obtain ⟨fuel, hf⟩ := h
  rcases DataW.trod_slice ht hf with ⟨h0, _⟩ | ⟨a, len, cap, elems, rest, m, _, h0, hx, _, _, _, hlen, _⟩
  · simp only [Value.cells, List.cons.injEq, Value.slice.injEq, and_true] at h0
    exact .inl h0.2.1
  · simp only [Value.cells, List.cons.injEq, Value.slice.injEq, and_true] at h0
    obtain ⟨rfl, rfl, rfl⟩ := h0
    cases hx
    exact .inr ⟨_, _, rfl, by rw [List.length_map]; exact hlen⟩
theorem reach_len {H : Type} {enc : TypeId × Value → H} {P : Program} {w : World} {ts : List TypeId} {ds : List (DataW H)} (hsz : (DataW.weightsEach P ts ds).all (· ≤ reachBytes) = true) {j : Nat} {t e : TypeId} {A : Option Addr} {n c : Nat} {d : DataW H} {ps : List MemPlace}
    (hj : ts[j]? = some t) (hd : ds[j]? = some d) (ht : P.underlying t = some (.slice e)) (h : DataW.Trod enc P w 0 (fun _ => true) true t (.slice A n c) d ps) : n * P.bytesOf e ≤ reachBytes := by
  rcases trod_len ht h with rfl | ⟨el, sp, rfl, rfl⟩
  · simp
  · exact Nat.le_trans (Nat.mul_le_mul_right _ (Nat.le_add_right _ _)) (sized_slice hsz hj hd ht)
end Go.Proofs.Ck
