/- Parts of the proofs of this seat's laws. -/
import Derived.Test.YtpakfelekphbmaaGSeg
import Derived.Test.YtpakfelekphbmaaRows
import Derived.ProofKit
import Derived.OpenShut
import Derived.Carry
import Derived.Deep.SlicePairs
import Derived.JoinedOf
import Derived.Lib.SmallJoins

namespace Go.Proofs.Ck
open Go Go.RowKit Go.ChangeShapes Go.WideShapes Go.ChangeAt
open Go.Proofs.Ytpakfelekphbmaa

theorem own : ownKnob Try.prog.godebug = none := by kernel_rfl

section
variable {H : Type} {enc : TypeId × Value → H} {P : Program}

theorem trodAll_below (hl : laidOutB P = true) {W W' : World} (hb : Below W.heap.size W W') : ∀ {ts : List TypeId} {vs : List Value} {ds : List (DataW H)} {ps : List MemPlace},
    (ts.all fun t => P.readableRec t && decide (t < P.types.size)) = true → (∀ x ∈ ps, x.block < W.heap.size) → DataW.TrodAll enc P W 0 (fun _ => true) true ts vs ds ps →
    DataW.TrodAll enc P W' 0 (fun b => decide (b < W.heap.size)) true ts vs ds ps
  | [], [], [], _, _, _, h => h
  | [], _ :: _, _, _, _, _, h => h.elim
  | [], [], _ :: _, _, _, _, h => h.elim
  | _ :: _, [], _, _, _, _, h => h.elim
  | _ :: _, _ :: _, [], _, _, _, h => h.elim
  | t :: ts, v :: vs, d :: ds, ps, hr, hp, h => by
    obtain ⟨p, q, h1, h2, rfl⟩ := h
    simp only [List.all_cons, Bool.and_eq_true, decide_eq_true_eq] at hr
    exact ⟨p, q, Below.trod hl hr.1.1 hr.1.2 h1 hb (fun x hx => hp x (by simp [hx])), trodAll_below hl hb (by simpa using hr.2) (fun x hx => hp x (by simp [hx])) h2, rfl⟩

theorem trodAll_length {w : World} {b : Nat} {sp : Nat → Bool} {hd : Bool} : ∀ {ts : List TypeId} {vs : List Value} {ds : List (DataW H)} {ps : List MemPlace}, DataW.TrodAll enc P w b sp hd ts vs ds ps → ds.length = ts.length
  | [], _, _, _, h => by obtain ⟨_, rfl, _⟩ := trodAll_nil h; rfl
  | t :: ts, _, _, _, h => by
    obtain ⟨v, vs', d, ds', p', q', rfl, rfl, rfl, _, r⟩ := trodAll_cons h
    simp [trodAll_length r]

/-- The post of a law: true comes back, every block that was there is as it was. -/
theorem law_post {f : Func} {s : ChangeSpec} {W W' : World} {args : Array Value} {ds gs : List (DataW H)} {before : List MemPlace} {t : TypeId}
    (hl : laidOutB P = true) (hts : (f.params.toList.all fun t => P.readableRec t && decide (t < P.types.size)) = true) (hv : s.vars = [])
    (hrt : f.resultTypes = #[t]) (ht : P.underlying t = some .bool)
    (hr : (s.fn H (ds ++ gs)).results = [.lit (.bool true)]) (ha : (s.fn H (ds ++ gs)).args = ds) (hvv : (s.fn H (ds ++ gs)).vars = [])
    (hW : DataW.Whole enc P f.params.toList s.vars false W args.toList ds gs before) (hb : Below W.heap.size W W') :
    s.post enc P f false true false false W args (.bool true) W' := by
  have hlt : ∀ p ∈ before, p.block < W.heap.size := fun p hp => hW.lt p hp
  have hW' := hW
  obtain ⟨p, q, h1, h2, rfl, _, _⟩ := hW
  rw [hv] at h2
  obtain ⟨rfl, rfl⟩ := trodVars_none h2
  refine ⟨ds, [], p ++ [], [], p, [], hW', ?_, ?_, ?_, hb.frame _, fun h => by cases h⟩
  · rw [hr, hrt]
    exact trodAll_mk1 (shut_bool ht _)
  · rw [ha]
    exact trodAll_below hl hb hts (fun x hx => hlt x (by simp [hx])) h1
  · rw [hvv, hv]
    rfl
end

set_option maxRecDepth 100000 in
theorem laid_out : laidOutB Try.prog = true := by kernel_rfl

set_option maxRecDepth 100000 in
/-- The law's row from its walk. -/
theorem law_lifted {f : FuncId} {fn : Func} {s : ChangeSpec} {os : Os} {H : Type} {enc : TypeId × Value → H} (started : os.Started) (noInit : Try.checked.prog.inits.idxOf? f = none) (hfn : Try.prog.funcs[f]? = some fn)
    (hts : (fn.params.toList.all fun t => Try.prog.readableRec t && decide (t < Try.prog.types.size)) = true) (hv : s.vars = []) (hrt : fn.resultTypes = #[4])
    (hs : ∀ ds : List (DataW H), ds.length = fn.params.toList.length → (s.fn H (ds ++ [])).results = [.lit (.bool true)] ∧ (s.fn H (ds ++ [])).args = ds ∧ (s.fn H (ds ++ [])).vars = [])
    (witness : ∃ (w : World) (tape : Tape) (i : Input), w.os = os ∧ (w.forCall tape i).Shaped Try.prog ∧ i.vars = [] ∧ Input.okWide Try.prog (w.forCall tape i) .any w.heap.size f i ∧
      s.pre6 enc Try.prog fn [] false (w.forCall tape i).memory i.args ∧ (({} : Assume)).holds Try.prog (lone (Frame.enter Try.prog f i.args .normal) [] (w.forCall tape i)))
    (walk : ∀ (W : World) (base : Nat) (args : Array Value) (ds : List (DataW H)) (ps : List MemPlace),
      (∀ (j : Nat) t v, fn.params[j]? = some t → args[j]? = some v → Value.okWide Try.prog W .any base t v) →
      DataW.TrodAll enc Try.prog W 0 (fun _ => true) true fn.params.toList args.toList ds ps → (∀ x ∈ ps, x.block < W.heap.size) →
      (∀ b off, MemPlace.cell b off ∈ ps → W.frozen? ⟨b, off, none⟩ = false) →
      Calls Try.prog f args W fun e W' => e = .returned (.bool true) ∧ Grow W W') :
    ReturnsInHanded {} Try.checked os f .any (s.pre6 enc Try.prog fn [] false) (s.post enc Try.prog fn false true false false) := by
  refine returnsInHanded_of_change (C := Try.checked) own started noInit hfn witness ?_
  intro W base args ds gs before hval hW _ _
  have hlt : ∀ p ∈ before, p.block < W.heap.size := fun p hp => hW.lt p hp
  have hW' := hW
  obtain ⟨p, q, h1, h2, rfl, hfz, _⟩ := hW
  rw [hv] at h2
  obtain ⟨rfl, rfl⟩ := trodVars_none h2
  have hlen : ds.length = fn.params.toList.length := trodAll_length h1
  refine (walk W base args ds p hval h1 (fun x hx => hlt x (by simp [hx])) (fun b off hm => hfz b off (by simp [hm]))).mono fun e W' ⟨he, hg⟩ => ?_
  obtain ⟨e1, e2, e3⟩ := hs ds hlen
  exact ⟨_, he, law_post laid_out hts hv hrt Try.underlying4 e1 e2 e3 hW' hg⟩

theorem lt_of_cell {w : World} {a : Addr} {v : Value} (h : w.cell? a = some v) : a.block < w.heap.size := by
  obtain ⟨o, ho, -⟩ := cells_of_cell h
  exact lt_of_heap ho

end Go.Proofs.Ck

namespace Go.Proofs.Ck
open Go
open Go.Proofs.Ytpakfelekphbmaa

theorem words_split : ∀ (A B : List Char), A.all (· != ' ') = true → wordsSigns (A ++ ' ' :: B) = A :: wordsSigns B
  | [], _, _ => rfl
  | c :: A, B, h => by
    simp only [List.all_cons, Bool.and_eq_true, bne_iff_ne, ne_eq] at h
    have := words_split A B h.2
    rw [List.cons_append, wordsSigns, this]
    exact h.1

def w0 : List Char := ['h', 'a', 'r', 'n', 'e', 's', 's']
def w1 : List Char := ['d', '5', '5', '1', '9', '7', 'f', '1', '5', 'a', 'c', 'e', '5', '6', 'e', '2', 'd', 'e', '6', '5', '7', '4', 'a', '5', '5', '3', 'f', 'b', 'd', '2', '4', '7', '9', '4', '9', '1', 'f', 'f', '2', 'c', '5', '2', '0', 'f', '8', '6', 'c', '5', '6', 'a', 'b', 'b', '3', 'f', '1', '2', '0', '4', '1', 'b', '8', '2', '5', '4']
def w2 : List Char := ['c', 'u', 't']
def w3 : List Char := ['a', 't', ' ', 'c', 'a', 'r', 'r', 'a', 'c', 'k', '/', 'c', 'a', 'r', 'r', 'a', 'c', 'k', 'l', 'a', 'w', '0', '2', '.', 'S', 'e', 'g', 'A', 'l', 'l', ' ', 'c', 'a', 'r', 'r', 'a', 'c', 'k', '/', 'c', 'a', 'r', 'r', 'a', 'c', 'k', 'l', 'a', 'w', '0', '2', '.', 'S', 'e', 'g', 'D', 'i', 'f', 'f', ' ', 'c', 'a', 'r', 'r', 'a', 'c', 'k', '/', 'c', 'a', 'r', 'r', 'a', 'c', 'k', 'l', 'a', 'w', '0', '1', '.', 'W', 'o', 'r', 'd', 'U', 'p', ' ', 'c', 'a', 'r', 'r', 'a', 'c', 'k', '/', 'c', 'a', 'r', 'r', 'a', 'c', 'k', 'l', 'a', 'w', '0', '1', '.', 'W', 'o', 'r', 'd', 'B', 'l', 'o', 'c', 'k', 's', ' ', 'c', 'a', 'r', 'r', 'a', 'c', 'k', '/', 'c', 'a', 'r', 'r', 'a', 'c', 'k', 'l', 'a', 'w', '0', '1', '.', 'W', 'o', 'r', 'd', 'R', 'a', 'n', 'k', 's', ' ', 'c', 'a', 'r', 'r', 'a', 'c', 'k', '/', 'c', 'a', 'r', 'r', 'a', 'c', 'k', 'l', 'a', 'w', '0', '2', '.', 'S', 'e', 'g', 'S', 't', 'a', 'y', 's', ' ', 'c', 'a', 'r', 'r', 'a', 'c', 'k', '/', 'c', 'a', 'r', 'r', 'a', 'c', 'k', 'l', 'a', 'w', '0', '2', '.', 'S', 'e', 'g', 'C', 'o', 'p', 'i', 'e', 's', ' ', 'c', 'a', 'r', 'r', 'a', 'c', 'k', '/', 'c', 'a', 'r', 'r', 'a', 'c', 'k', 'l', 'a', 'w', '0', '2', '.', 'S', 'e', 'g', 'N', 'o', 'b', 'o', 'd', 'y', ' ', 'c', 'a', 'r', 'r', 'a', 'c', 'k', '/', 'c', 'a', 'r', 'r', 'a', 'c', 'k', 'l', 'a', 'w', '0', '1', '.', 'W', 'o', 'r', 'd', 'N', 'e', 'e', 'd', 's', ' ', 'c', 'a', 'r', 'r', 'a', 'c', 'k', '/', 'c', 'a', 'r', 'r', 'a', 'c', 'k', 'l', 'a', 'w', '0', '1', '.', 'W', 'o', 'r', 'd', 'N', 'a', 'm', 'e', 's', ' ', 'c', 'a', 'r', 'r', 'a', 'c', 'k', '/', 'c', 'a', 'r', 'r', 'a', 'c', 'k', 'l', 'a', 'w', '0', '1', '.', 'W', 'o', 'r', 'd', 'S', 'u', 'm', 's', ' ', 'c', 'a', 'r', 'r', 'a', 'c', 'k', '/', 'c', 'a', 'r', 'r', 'a', 'c', 'k', 'l', 'a', 'w', '1', '8', '.', 'L', 'o', 'c', 'k', 'T', 'e', 'l', 'l', 's', ' ', 'c', 'a', 'r', 'r', 'a', 'c', 'k', '/', 'c', 'a', 'r', 'r', 'a', 'c', 'k', 'l', 'a', 'w', '1', '8', '.', 'L', 'o', 'c', 'k', 'W', 'o', 'r', 'd', ' ', 'c', 'a', 'r', 'r', 'a', 'c', 'k', '/', 'c', 'a', 'r', 'r', 'a', 'c', 'k', 'l', 'a', 'w', '1', '8', '.', 'L', 'o', 'c', 'k', 'N', 'o', 'b', 'o', 'd', 'y', ' ', 'c', 'a', 'r', 'r', 'a', 'c', 'k', '/', 'c', 'a', 'r', 'r', 'a', 'c', 'k', 'l', 'a', 'w', '1', '8', '.', 'L', 'o', 'c', 'k', 'D', 'i', 'e', 's', ' ', 'c', 'a', 'r', 'r', 'a', 'c', 'k', '/', 'c', 'a', 'r', 'r', 'a', 'c', 'k', 'l', 'a', 'w', '1', '7', '.', 'I', 'n', 't', 'e', 'n', 't', 'T', 'e', 'l', 'l', 's', ' ', 'c', 'a', 'r', 'r', 'a', 'c', 'k', '/', 'c', 'a', 'r', 'r', 'a', 'c', 'k', 'l', 'a', 'w', '1', '7', '.', 'I', 'n', 't', 'e', 'n', 't', 'R', 'e', 'a', 'd', 's', ' ', 'c', 'a', 'r', 'r', 'a', 'c', 'k', '/', 'c', 'a', 'r', 'r', 'a', 'c', 'k', 'l', 'a', 'w', '1', '7', '.', 'I', 'n', 't', 'e', 'n', 't', 'B', 'a', 'c', 'k', ' ', 'c', 'a', 'r', 'r', 'a', 'c', 'k', '/', 'c', 'a', 'r', 'r', 'a', 'c', 'k', 'l', 'a', 'w', '1', '7', '.', 'I', 'n', 't', 'e', 'n', 't', 'W', 'i', 't', 'h', 'i', 'n', ' ', 'c', 'a', 'r', 'r', 'a', 'c', 'k', '/', 'c', 'a', 'r', 'r', 'a', 'c', 'k', 'l', 'a', 'w', '1', '7', '.', 'I', 'n', 't', 'e', 'n', 't', 'N', 'o', 'n', 'e', ' ', 'c', 'a', 'r', 'r', 'a', 'c', 'k', '/', 'c', 'a', 'r', 'r', 'a', 'c', 'k', 'l', 'a', 'w', '0', '8', '.', 'C', 'l', 'i', 'e', 'n', 't', 'W', 'o', 'r', 'd', 's', ' ', 'c', 'a', 'r', 'r', 'a', 'c', 'k', '/', 'c', 'a', 'r', 'r', 'a', 'c', 'k', 'l', 'a', 'w', '0', '8', '.', 'C', 'l', 'i', 'e', 'n', 't', 'A', 'p', 'a', 'r', 't', ' ', 'c', 'a', 'r', 'r', 'a', 'c', 'k', '/', 'c', 'a', 'r', 'r', 'a', 'c', 'k', 'l', 'a', 'w', '1', '8', '.', 'L', 'o', 'c', 'k', 'H', 'o', 'l', 'd', 's', ' ', 'c', 'a', 'r', 'r', 'a', 'c', 'k', '/', 'c', 'a', 'r', 'r', 'a', 'c', 'k', 'l', 'a', 'w', '1', '8', '.', 'L', 'o', 'c', 'k', 'O', 'n', 'e', ' ', 'c', 'a', 'r', 'r', 'a', 'c', 'k', '/', 'c', 'a', 'r', 'r', 'a', 'c', 'k', 'l', 'a', 'w', '0', '8', '.', 'C', 'l', 'i', 'e', 'n', 't', 'O', 'n', 'e', 's', ' ', 'c', 'a', 'r', 'r', 'a', 'c', 'k', '/', 'c', 'a', 'r', 'r', 'a', 'c', 'k', 'l', 'a', 'w', '0', '8', '.', 'C', 'l', 'i', 'e', 'n', 't', 'N', 'o', 'b', 'o', 'd', 'y', ' ', 'c', 'a', 'r', 'r', 'a', 'c', 'k', '/', 'c', 'a', 'r', 'r', 'a', 'c', 'k', 'l', 'a', 'w', '1', '7', '.', 'I', 'n', 't', 'e', 'n', 't', 'A', 'p', 'a', 'r', 't', ' ', 'c', 'a', 'r', 'r', 'a', 'c', 'k', '/', 'c', 'a', 'r', 'r', 'a', 'c', 'k', 'l', 'a', 'w', '0', '9', '.', 'L', 'e', 'd', 'g', 'e', 'r', 'C', 'h', 'e', 'c', 'k', 's', ' ', 'c', 'a', 'r', 'r', 'a', 'c', 'k', '/', 'c', 'a', 'r', 'r', 'a', 'c', 'k', 'l', 'a', 'w', '0', '9', '.', 'L', 'e', 'd', 'g', 'e', 'r', 'P', 'l', 'a', 'y', 's', ' ', 'c', 'a', 'r', 'r', 'a', 'c', 'k', '/', 'c', 'a', 'r', 'r', 'a', 'c', 'k', 'l', 'a', 'w', '0', '9', '.', 'L', 'e', 'd', 'g', 'e', 'r', 'L', 'a', 's', 't', ' ', 'c', 'a', 'r', 'r', 'a', 'c', 'k', '/', 'c', 'a', 'r', 'r', 'a', 'c', 'k', 'l', 'a', 'w', '0', '9', '.', 'L', 'e', 'd', 'g', 'e', 'r', 'E', 'n', 'd', 's', ' ', 'c', 'a', 'r', 'r', 'a', 'c', 'k', '/', 'c', 'a', 'r', 'r', 'a', 'c', 'k', 'l', 'a', 'w', '0', '9', '.', 'L', 'e', 'd', 'g', 'e', 'r', 'A', 'p', 'a', 'r', 't', ' ', 'c', 'a', 'r', 'r', 'a', 'c', 'k', '/', 'c', 'a', 'r', 'r', 'a', 'c', 'k', 'l', 'a', 'w', '0', '8', '.', 'C', 'l', 'i', 'e', 'n', 't', 'P', 'l', 'a', 'y', 's', ' ', 'c', 'a', 'r', 'r', 'a', 'c', 'k', '/', 'c', 'a', 'r', 'r', 'a', 'c', 'k', 'l', 'a', 'w', '0', '8', '.', 'C', 'l', 'i', 'e', 'n', 't', 'G', 'o', 'e', 's', ' ', 'c', 'a', 'r', 'r', 'a', 'c', 'k', '/', 'c', 'a', 'r', 'r', 'a', 'c', 'k', 'l', 'a', 'w', '1', '3', '.', 'D', 'i', 'r', 'P', 'l', 'a', 'y', 's', ' ', 'c', 'a', 'r', 'r', 'a', 'c', 'k', '/', 'c', 'a', 'r', 'r', 'a', 'c', 'k', 'l', 'a', 'w', '1', '3', '.', 'D', 'i', 'r', 'K', 'e', 'e', 'p', 's', ' ', 'c', 'a', 'r', 'r', 'a', 'c', 'k', '/', 'c', 'a', 'r', 'r', 'a', 'c', 'k', 'l', 'a', 'w', '1', '3', '.', 'D', 'i', 'r', 'F', 'u', 'l', 'l', ' ', 'c', 'a', 'r', 'r', 'a', 'c', 'k', '/', 'c', 'a', 'r', 'r', 'a', 'c', 'k', 'l', 'a', 'w', '1', '3', '.', 'D', 'i', 'r', 'A', 'l', 'l', ' ', 'c', 'a', 'r', 'r', 'a', 'c', 'k', '/', 'c', 'a', 'r', 'r', 'a', 'c', 'k', 'l', 'a', 'w', '1', '3', '.', 'D', 'i', 'r', 'N', 'o', 'b', 'o', 'd', 'y']
set_option maxRecDepth 100000 in
theorem order_is : Try.prog.initOrder = String.ofList ['h', 'a', 'r', 'n', 'e', 's', 's', ' ', 'd', '5', '5', '1', '9', '7', 'f', '1', '5', 'a', 'c', 'e', '5', '6', 'e', '2', 'd', 'e', '6', '5', '7', '4', 'a', '5', '5', '3', 'f', 'b', 'd', '2', '4', '7', '9', '4', '9', '1', 'f', 'f', '2', 'c', '5', '2', '0', 'f', '8', '6', 'c', '5', '6', 'a', 'b', 'b', '3', 'f', '1', '2', '0', '4', '1', 'b', '8', '2', '5', '4', ' ', 'c', 'u', 't', ' ', 'a', 't', ' ', 'c', 'a', 'r', 'r', 'a', 'c', 'k', '/', 'c', 'a', 'r', 'r', 'a', 'c', 'k', 'l', 'a', 'w', '0', '2', '.', 'S', 'e', 'g', 'A', 'l', 'l', ' ', 'c', 'a', 'r', 'r', 'a', 'c', 'k', '/', 'c', 'a', 'r', 'r', 'a', 'c', 'k', 'l', 'a', 'w', '0', '2', '.', 'S', 'e', 'g', 'D', 'i', 'f', 'f', ' ', 'c', 'a', 'r', 'r', 'a', 'c', 'k', '/', 'c', 'a', 'r', 'r', 'a', 'c', 'k', 'l', 'a', 'w', '0', '1', '.', 'W', 'o', 'r', 'd', 'U', 'p', ' ', 'c', 'a', 'r', 'r', 'a', 'c', 'k', '/', 'c', 'a', 'r', 'r', 'a', 'c', 'k', 'l', 'a', 'w', '0', '1', '.', 'W', 'o', 'r', 'd', 'B', 'l', 'o', 'c', 'k', 's', ' ', 'c', 'a', 'r', 'r', 'a', 'c', 'k', '/', 'c', 'a', 'r', 'r', 'a', 'c', 'k', 'l', 'a', 'w', '0', '1', '.', 'W', 'o', 'r', 'd', 'R', 'a', 'n', 'k', 's', ' ', 'c', 'a', 'r', 'r', 'a', 'c', 'k', '/', 'c', 'a', 'r', 'r', 'a', 'c', 'k', 'l', 'a', 'w', '0', '2', '.', 'S', 'e', 'g', 'S', 't', 'a', 'y', 's', ' ', 'c', 'a', 'r', 'r', 'a', 'c', 'k', '/', 'c', 'a', 'r', 'r', 'a', 'c', 'k', 'l', 'a', 'w', '0', '2', '.', 'S', 'e', 'g', 'C', 'o', 'p', 'i', 'e', 's', ' ', 'c', 'a', 'r', 'r', 'a', 'c', 'k', '/', 'c', 'a', 'r', 'r', 'a', 'c', 'k', 'l', 'a', 'w', '0', '2', '.', 'S', 'e', 'g', 'N', 'o', 'b', 'o', 'd', 'y', ' ', 'c', 'a', 'r', 'r', 'a', 'c', 'k', '/', 'c', 'a', 'r', 'r', 'a', 'c', 'k', 'l', 'a', 'w', '0', '1', '.', 'W', 'o', 'r', 'd', 'N', 'e', 'e', 'd', 's', ' ', 'c', 'a', 'r', 'r', 'a', 'c', 'k', '/', 'c', 'a', 'r', 'r', 'a', 'c', 'k', 'l', 'a', 'w', '0', '1', '.', 'W', 'o', 'r', 'd', 'N', 'a', 'm', 'e', 's', ' ', 'c', 'a', 'r', 'r', 'a', 'c', 'k', '/', 'c', 'a', 'r', 'r', 'a', 'c', 'k', 'l', 'a', 'w', '0', '1', '.', 'W', 'o', 'r', 'd', 'S', 'u', 'm', 's', ' ', 'c', 'a', 'r', 'r', 'a', 'c', 'k', '/', 'c', 'a', 'r', 'r', 'a', 'c', 'k', 'l', 'a', 'w', '1', '8', '.', 'L', 'o', 'c', 'k', 'T', 'e', 'l', 'l', 's', ' ', 'c', 'a', 'r', 'r', 'a', 'c', 'k', '/', 'c', 'a', 'r', 'r', 'a', 'c', 'k', 'l', 'a', 'w', '1', '8', '.', 'L', 'o', 'c', 'k', 'W', 'o', 'r', 'd', ' ', 'c', 'a', 'r', 'r', 'a', 'c', 'k', '/', 'c', 'a', 'r', 'r', 'a', 'c', 'k', 'l', 'a', 'w', '1', '8', '.', 'L', 'o', 'c', 'k', 'N', 'o', 'b', 'o', 'd', 'y', ' ', 'c', 'a', 'r', 'r', 'a', 'c', 'k', '/', 'c', 'a', 'r', 'r', 'a', 'c', 'k', 'l', 'a', 'w', '1', '8', '.', 'L', 'o', 'c', 'k', 'D', 'i', 'e', 's', ' ', 'c', 'a', 'r', 'r', 'a', 'c', 'k', '/', 'c', 'a', 'r', 'r', 'a', 'c', 'k', 'l', 'a', 'w', '1', '7', '.', 'I', 'n', 't', 'e', 'n', 't', 'T', 'e', 'l', 'l', 's', ' ', 'c', 'a', 'r', 'r', 'a', 'c', 'k', '/', 'c', 'a', 'r', 'r', 'a', 'c', 'k', 'l', 'a', 'w', '1', '7', '.', 'I', 'n', 't', 'e', 'n', 't', 'R', 'e', 'a', 'd', 's', ' ', 'c', 'a', 'r', 'r', 'a', 'c', 'k', '/', 'c', 'a', 'r', 'r', 'a', 'c', 'k', 'l', 'a', 'w', '1', '7', '.', 'I', 'n', 't', 'e', 'n', 't', 'B', 'a', 'c', 'k', ' ', 'c', 'a', 'r', 'r', 'a', 'c', 'k', '/', 'c', 'a', 'r', 'r', 'a', 'c', 'k', 'l', 'a', 'w', '1', '7', '.', 'I', 'n', 't', 'e', 'n', 't', 'W', 'i', 't', 'h', 'i', 'n', ' ', 'c', 'a', 'r', 'r', 'a', 'c', 'k', '/', 'c', 'a', 'r', 'r', 'a', 'c', 'k', 'l', 'a', 'w', '1', '7', '.', 'I', 'n', 't', 'e', 'n', 't', 'N', 'o', 'n', 'e', ' ', 'c', 'a', 'r', 'r', 'a', 'c', 'k', '/', 'c', 'a', 'r', 'r', 'a', 'c', 'k', 'l', 'a', 'w', '0', '8', '.', 'C', 'l', 'i', 'e', 'n', 't', 'W', 'o', 'r', 'd', 's', ' ', 'c', 'a', 'r', 'r', 'a', 'c', 'k', '/', 'c', 'a', 'r', 'r', 'a', 'c', 'k', 'l', 'a', 'w', '0', '8', '.', 'C', 'l', 'i', 'e', 'n', 't', 'A', 'p', 'a', 'r', 't', ' ', 'c', 'a', 'r', 'r', 'a', 'c', 'k', '/', 'c', 'a', 'r', 'r', 'a', 'c', 'k', 'l', 'a', 'w', '1', '8', '.', 'L', 'o', 'c', 'k', 'H', 'o', 'l', 'd', 's', ' ', 'c', 'a', 'r', 'r', 'a', 'c', 'k', '/', 'c', 'a', 'r', 'r', 'a', 'c', 'k', 'l', 'a', 'w', '1', '8', '.', 'L', 'o', 'c', 'k', 'O', 'n', 'e', ' ', 'c', 'a', 'r', 'r', 'a', 'c', 'k', '/', 'c', 'a', 'r', 'r', 'a', 'c', 'k', 'l', 'a', 'w', '0', '8', '.', 'C', 'l', 'i', 'e', 'n', 't', 'O', 'n', 'e', 's', ' ', 'c', 'a', 'r', 'r', 'a', 'c', 'k', '/', 'c', 'a', 'r', 'r', 'a', 'c', 'k', 'l', 'a', 'w', '0', '8', '.', 'C', 'l', 'i', 'e', 'n', 't', 'N', 'o', 'b', 'o', 'd', 'y', ' ', 'c', 'a', 'r', 'r', 'a', 'c', 'k', '/', 'c', 'a', 'r', 'r', 'a', 'c', 'k', 'l', 'a', 'w', '1', '7', '.', 'I', 'n', 't', 'e', 'n', 't', 'A', 'p', 'a', 'r', 't', ' ', 'c', 'a', 'r', 'r', 'a', 'c', 'k', '/', 'c', 'a', 'r', 'r', 'a', 'c', 'k', 'l', 'a', 'w', '0', '9', '.', 'L', 'e', 'd', 'g', 'e', 'r', 'C', 'h', 'e', 'c', 'k', 's', ' ', 'c', 'a', 'r', 'r', 'a', 'c', 'k', '/', 'c', 'a', 'r', 'r', 'a', 'c', 'k', 'l', 'a', 'w', '0', '9', '.', 'L', 'e', 'd', 'g', 'e', 'r', 'P', 'l', 'a', 'y', 's', ' ', 'c', 'a', 'r', 'r', 'a', 'c', 'k', '/', 'c', 'a', 'r', 'r', 'a', 'c', 'k', 'l', 'a', 'w', '0', '9', '.', 'L', 'e', 'd', 'g', 'e', 'r', 'L', 'a', 's', 't', ' ', 'c', 'a', 'r', 'r', 'a', 'c', 'k', '/', 'c', 'a', 'r', 'r', 'a', 'c', 'k', 'l', 'a', 'w', '0', '9', '.', 'L', 'e', 'd', 'g', 'e', 'r', 'E', 'n', 'd', 's', ' ', 'c', 'a', 'r', 'r', 'a', 'c', 'k', '/', 'c', 'a', 'r', 'r', 'a', 'c', 'k', 'l', 'a', 'w', '0', '9', '.', 'L', 'e', 'd', 'g', 'e', 'r', 'A', 'p', 'a', 'r', 't', ' ', 'c', 'a', 'r', 'r', 'a', 'c', 'k', '/', 'c', 'a', 'r', 'r', 'a', 'c', 'k', 'l', 'a', 'w', '0', '8', '.', 'C', 'l', 'i', 'e', 'n', 't', 'P', 'l', 'a', 'y', 's', ' ', 'c', 'a', 'r', 'r', 'a', 'c', 'k', '/', 'c', 'a', 'r', 'r', 'a', 'c', 'k', 'l', 'a', 'w', '0', '8', '.', 'C', 'l', 'i', 'e', 'n', 't', 'G', 'o', 'e', 's', ' ', 'c', 'a', 'r', 'r', 'a', 'c', 'k', '/', 'c', 'a', 'r', 'r', 'a', 'c', 'k', 'l', 'a', 'w', '1', '3', '.', 'D', 'i', 'r', 'P', 'l', 'a', 'y', 's', ' ', 'c', 'a', 'r', 'r', 'a', 'c', 'k', '/', 'c', 'a', 'r', 'r', 'a', 'c', 'k', 'l', 'a', 'w', '1', '3', '.', 'D', 'i', 'r', 'K', 'e', 'e', 'p', 's', ' ', 'c', 'a', 'r', 'r', 'a', 'c', 'k', '/', 'c', 'a', 'r', 'r', 'a', 'c', 'k', 'l', 'a', 'w', '1', '3', '.', 'D', 'i', 'r', 'F', 'u', 'l', 'l', ' ', 'c', 'a', 'r', 'r', 'a', 'c', 'k', '/', 'c', 'a', 'r', 'r', 'a', 'c', 'k', 'l', 'a', 'w', '1', '3', '.', 'D', 'i', 'r', 'A', 'l', 'l', ' ', 'c', 'a', 'r', 'r', 'a', 'c', 'k', '/', 'c', 'a', 'r', 'r', 'a', 'c', 'k', 'l', 'a', 'w', '1', '3', '.', 'D', 'i', 'r', 'N', 'o', 'b', 'o', 'd', 'y'] := by kernel_rfl
set_option maxRecDepth 100000 in
theorem flat_is : ['h', 'a', 'r', 'n', 'e', 's', 's', ' ', 'd', '5', '5', '1', '9', '7', 'f', '1', '5', 'a', 'c', 'e', '5', '6', 'e', '2', 'd', 'e', '6', '5', '7', '4', 'a', '5', '5', '3', 'f', 'b', 'd', '2', '4', '7', '9', '4', '9', '1', 'f', 'f', '2', 'c', '5', '2', '0', 'f', '8', '6', 'c', '5', '6', 'a', 'b', 'b', '3', 'f', '1', '2', '0', '4', '1', 'b', '8', '2', '5', '4', ' ', 'c', 'u', 't', ' ', 'a', 't', ' ', 'c', 'a', 'r', 'r', 'a', 'c', 'k', '/', 'c', 'a', 'r', 'r', 'a', 'c', 'k', 'l', 'a', 'w', '0', '2', '.', 'S', 'e', 'g', 'A', 'l', 'l', ' ', 'c', 'a', 'r', 'r', 'a', 'c', 'k', '/', 'c', 'a', 'r', 'r', 'a', 'c', 'k', 'l', 'a', 'w', '0', '2', '.', 'S', 'e', 'g', 'D', 'i', 'f', 'f', ' ', 'c', 'a', 'r', 'r', 'a', 'c', 'k', '/', 'c', 'a', 'r', 'r', 'a', 'c', 'k', 'l', 'a', 'w', '0', '1', '.', 'W', 'o', 'r', 'd', 'U', 'p', ' ', 'c', 'a', 'r', 'r', 'a', 'c', 'k', '/', 'c', 'a', 'r', 'r', 'a', 'c', 'k', 'l', 'a', 'w', '0', '1', '.', 'W', 'o', 'r', 'd', 'B', 'l', 'o', 'c', 'k', 's', ' ', 'c', 'a', 'r', 'r', 'a', 'c', 'k', '/', 'c', 'a', 'r', 'r', 'a', 'c', 'k', 'l', 'a', 'w', '0', '1', '.', 'W', 'o', 'r', 'd', 'R', 'a', 'n', 'k', 's', ' ', 'c', 'a', 'r', 'r', 'a', 'c', 'k', '/', 'c', 'a', 'r', 'r', 'a', 'c', 'k', 'l', 'a', 'w', '0', '2', '.', 'S', 'e', 'g', 'S', 't', 'a', 'y', 's', ' ', 'c', 'a', 'r', 'r', 'a', 'c', 'k', '/', 'c', 'a', 'r', 'r', 'a', 'c', 'k', 'l', 'a', 'w', '0', '2', '.', 'S', 'e', 'g', 'C', 'o', 'p', 'i', 'e', 's', ' ', 'c', 'a', 'r', 'r', 'a', 'c', 'k', '/', 'c', 'a', 'r', 'r', 'a', 'c', 'k', 'l', 'a', 'w', '0', '2', '.', 'S', 'e', 'g', 'N', 'o', 'b', 'o', 'd', 'y', ' ', 'c', 'a', 'r', 'r', 'a', 'c', 'k', '/', 'c', 'a', 'r', 'r', 'a', 'c', 'k', 'l', 'a', 'w', '0', '1', '.', 'W', 'o', 'r', 'd', 'N', 'e', 'e', 'd', 's', ' ', 'c', 'a', 'r', 'r', 'a', 'c', 'k', '/', 'c', 'a', 'r', 'r', 'a', 'c', 'k', 'l', 'a', 'w', '0', '1', '.', 'W', 'o', 'r', 'd', 'N', 'a', 'm', 'e', 's', ' ', 'c', 'a', 'r', 'r', 'a', 'c', 'k', '/', 'c', 'a', 'r', 'r', 'a', 'c', 'k', 'l', 'a', 'w', '0', '1', '.', 'W', 'o', 'r', 'd', 'S', 'u', 'm', 's', ' ', 'c', 'a', 'r', 'r', 'a', 'c', 'k', '/', 'c', 'a', 'r', 'r', 'a', 'c', 'k', 'l', 'a', 'w', '1', '8', '.', 'L', 'o', 'c', 'k', 'T', 'e', 'l', 'l', 's', ' ', 'c', 'a', 'r', 'r', 'a', 'c', 'k', '/', 'c', 'a', 'r', 'r', 'a', 'c', 'k', 'l', 'a', 'w', '1', '8', '.', 'L', 'o', 'c', 'k', 'W', 'o', 'r', 'd', ' ', 'c', 'a', 'r', 'r', 'a', 'c', 'k', '/', 'c', 'a', 'r', 'r', 'a', 'c', 'k', 'l', 'a', 'w', '1', '8', '.', 'L', 'o', 'c', 'k', 'N', 'o', 'b', 'o', 'd', 'y', ' ', 'c', 'a', 'r', 'r', 'a', 'c', 'k', '/', 'c', 'a', 'r', 'r', 'a', 'c', 'k', 'l', 'a', 'w', '1', '8', '.', 'L', 'o', 'c', 'k', 'D', 'i', 'e', 's', ' ', 'c', 'a', 'r', 'r', 'a', 'c', 'k', '/', 'c', 'a', 'r', 'r', 'a', 'c', 'k', 'l', 'a', 'w', '1', '7', '.', 'I', 'n', 't', 'e', 'n', 't', 'T', 'e', 'l', 'l', 's', ' ', 'c', 'a', 'r', 'r', 'a', 'c', 'k', '/', 'c', 'a', 'r', 'r', 'a', 'c', 'k', 'l', 'a', 'w', '1', '7', '.', 'I', 'n', 't', 'e', 'n', 't', 'R', 'e', 'a', 'd', 's', ' ', 'c', 'a', 'r', 'r', 'a', 'c', 'k', '/', 'c', 'a', 'r', 'r', 'a', 'c', 'k', 'l', 'a', 'w', '1', '7', '.', 'I', 'n', 't', 'e', 'n', 't', 'B', 'a', 'c', 'k', ' ', 'c', 'a', 'r', 'r', 'a', 'c', 'k', '/', 'c', 'a', 'r', 'r', 'a', 'c', 'k', 'l', 'a', 'w', '1', '7', '.', 'I', 'n', 't', 'e', 'n', 't', 'W', 'i', 't', 'h', 'i', 'n', ' ', 'c', 'a', 'r', 'r', 'a', 'c', 'k', '/', 'c', 'a', 'r', 'r', 'a', 'c', 'k', 'l', 'a', 'w', '1', '7', '.', 'I', 'n', 't', 'e', 'n', 't', 'N', 'o', 'n', 'e', ' ', 'c', 'a', 'r', 'r', 'a', 'c', 'k', '/', 'c', 'a', 'r', 'r', 'a', 'c', 'k', 'l', 'a', 'w', '0', '8', '.', 'C', 'l', 'i', 'e', 'n', 't', 'W', 'o', 'r', 'd', 's', ' ', 'c', 'a', 'r', 'r', 'a', 'c', 'k', '/', 'c', 'a', 'r', 'r', 'a', 'c', 'k', 'l', 'a', 'w', '0', '8', '.', 'C', 'l', 'i', 'e', 'n', 't', 'A', 'p', 'a', 'r', 't', ' ', 'c', 'a', 'r', 'r', 'a', 'c', 'k', '/', 'c', 'a', 'r', 'r', 'a', 'c', 'k', 'l', 'a', 'w', '1', '8', '.', 'L', 'o', 'c', 'k', 'H', 'o', 'l', 'd', 's', ' ', 'c', 'a', 'r', 'r', 'a', 'c', 'k', '/', 'c', 'a', 'r', 'r', 'a', 'c', 'k', 'l', 'a', 'w', '1', '8', '.', 'L', 'o', 'c', 'k', 'O', 'n', 'e', ' ', 'c', 'a', 'r', 'r', 'a', 'c', 'k', '/', 'c', 'a', 'r', 'r', 'a', 'c', 'k', 'l', 'a', 'w', '0', '8', '.', 'C', 'l', 'i', 'e', 'n', 't', 'O', 'n', 'e', 's', ' ', 'c', 'a', 'r', 'r', 'a', 'c', 'k', '/', 'c', 'a', 'r', 'r', 'a', 'c', 'k', 'l', 'a', 'w', '0', '8', '.', 'C', 'l', 'i', 'e', 'n', 't', 'N', 'o', 'b', 'o', 'd', 'y', ' ', 'c', 'a', 'r', 'r', 'a', 'c', 'k', '/', 'c', 'a', 'r', 'r', 'a', 'c', 'k', 'l', 'a', 'w', '1', '7', '.', 'I', 'n', 't', 'e', 'n', 't', 'A', 'p', 'a', 'r', 't', ' ', 'c', 'a', 'r', 'r', 'a', 'c', 'k', '/', 'c', 'a', 'r', 'r', 'a', 'c', 'k', 'l', 'a', 'w', '0', '9', '.', 'L', 'e', 'd', 'g', 'e', 'r', 'C', 'h', 'e', 'c', 'k', 's', ' ', 'c', 'a', 'r', 'r', 'a', 'c', 'k', '/', 'c', 'a', 'r', 'r', 'a', 'c', 'k', 'l', 'a', 'w', '0', '9', '.', 'L', 'e', 'd', 'g', 'e', 'r', 'P', 'l', 'a', 'y', 's', ' ', 'c', 'a', 'r', 'r', 'a', 'c', 'k', '/', 'c', 'a', 'r', 'r', 'a', 'c', 'k', 'l', 'a', 'w', '0', '9', '.', 'L', 'e', 'd', 'g', 'e', 'r', 'L', 'a', 's', 't', ' ', 'c', 'a', 'r', 'r', 'a', 'c', 'k', '/', 'c', 'a', 'r', 'r', 'a', 'c', 'k', 'l', 'a', 'w', '0', '9', '.', 'L', 'e', 'd', 'g', 'e', 'r', 'E', 'n', 'd', 's', ' ', 'c', 'a', 'r', 'r', 'a', 'c', 'k', '/', 'c', 'a', 'r', 'r', 'a', 'c', 'k', 'l', 'a', 'w', '0', '9', '.', 'L', 'e', 'd', 'g', 'e', 'r', 'A', 'p', 'a', 'r', 't', ' ', 'c', 'a', 'r', 'r', 'a', 'c', 'k', '/', 'c', 'a', 'r', 'r', 'a', 'c', 'k', 'l', 'a', 'w', '0', '8', '.', 'C', 'l', 'i', 'e', 'n', 't', 'P', 'l', 'a', 'y', 's', ' ', 'c', 'a', 'r', 'r', 'a', 'c', 'k', '/', 'c', 'a', 'r', 'r', 'a', 'c', 'k', 'l', 'a', 'w', '0', '8', '.', 'C', 'l', 'i', 'e', 'n', 't', 'G', 'o', 'e', 's', ' ', 'c', 'a', 'r', 'r', 'a', 'c', 'k', '/', 'c', 'a', 'r', 'r', 'a', 'c', 'k', 'l', 'a', 'w', '1', '3', '.', 'D', 'i', 'r', 'P', 'l', 'a', 'y', 's', ' ', 'c', 'a', 'r', 'r', 'a', 'c', 'k', '/', 'c', 'a', 'r', 'r', 'a', 'c', 'k', 'l', 'a', 'w', '1', '3', '.', 'D', 'i', 'r', 'K', 'e', 'e', 'p', 's', ' ', 'c', 'a', 'r', 'r', 'a', 'c', 'k', '/', 'c', 'a', 'r', 'r', 'a', 'c', 'k', 'l', 'a', 'w', '1', '3', '.', 'D', 'i', 'r', 'F', 'u', 'l', 'l', ' ', 'c', 'a', 'r', 'r', 'a', 'c', 'k', '/', 'c', 'a', 'r', 'r', 'a', 'c', 'k', 'l', 'a', 'w', '1', '3', '.', 'D', 'i', 'r', 'A', 'l', 'l', ' ', 'c', 'a', 'r', 'r', 'a', 'c', 'k', '/', 'c', 'a', 'r', 'r', 'a', 'c', 'k', 'l', 'a', 'w', '1', '3', '.', 'D', 'i', 'r', 'N', 'o', 'b', 'o', 'd', 'y'] = w0 ++ ' ' :: (w1 ++ ' ' :: (w2 ++ ' ' :: w3)) := by kernel_rfl
set_option maxRecDepth 100000 in
theorem words_are : wordsSigns Try.prog.initOrder.toList = w0 :: w1 :: w2 :: wordsSigns w3 := by
  rw [order_is, String.toList_ofList, flat_is, words_split w0 _ (by decide), words_split w1 _ (by decide), words_split w2 _ (by decide)]

theorem w2_is : "cut".toList = w2 := by
  have h : "cut" = String.ofList w2 := by kernel_rfl
  rw [h, String.toList_ofList]
theorem w0_is : "harness".toList = w0 := by
  have h : "harness" = String.ofList w0 := by kernel_rfl
  rw [h, String.toList_ofList]
theorem w2_ne {o : String} (h : o ≠ "cut") : (w2 == o.toList) = false := by
  rw [beq_eq_false_iff_ne, ← w2_is]
  exact fun e => h (String.toList_inj.1 e).symm
theorem behind_is : behindMainWord (wordsSigns Try.prog.initOrder.toList) = w2 :: wordsSigns w3 := by
  rw [words_are]
  generalize wordsSigns w3 = ws
  change (if ((w0 == "harness".toList || w0 == "ownmain".toList) && isSumSigns w1) = true then w2 :: ws else w0 :: w1 :: w2 :: ws) = _
  have h1 : (w0 == "harness".toList) = true := by rw [w0_is]; exact beq_self_eq_true _
  have h2 : isSumSigns w1 = true := by decide
  rw [h1, h2, Bool.true_or, Bool.and_true, if_pos rfl]
theorem strip_none (ws : List (List Char)) : ∀ os : List String, (∀ o ∈ os, o ≠ "cut") → stripLifts os (w2 :: ws) = ([], w2 :: ws)
  | [], _ => rfl
  | o :: os, h => by
    unfold stripLifts
    rw [w2_ne (h o (by simp)), strip_none ws os (fun x hx => h x (by simp [hx]))]
    rfl
theorem strip_is (ws : List (List Char)) : stripLifts liftWords (w2 :: ws) = ([], w2 :: ws) := strip_none _ _ (by decide)
theorem head_of (P : Program) (ws : List (List Char)) (hb : behindMainWord (wordsSigns P.initOrder.toList) = w2 :: ws) : P.headLifts = [] := by
  unfold Program.headLifts
  rw [hb, strip_is]
  dsimp only
  split <;> rfl
theorem enter_of (P : Program) (ws : List (List Char)) (hb : behindMainWord (wordsSigns P.initOrder.toList) = w2 :: ws) (hl : P.laysLater = false) (hr : P.bearsReflect = false) (hd : P.doorFits [] = true) : P.mayEnter = true := by
  unfold Program.mayEnter
  rw [hb]
  dsimp only
  rw [strip_is, hl, hr]
  dsimp only
  rw [hd, w2_is]
  have h : ((w2 :: ws).head? == some w2) = true := by rw [List.head?_cons]; exact beq_self_eq_true _
  rw [h]
  exact Bool.or_eq_true_iff.2 (.inr rfl)
theorem final_of (P : Program) (ws : List (List Char)) (hb : behindMainWord (wordsSigns P.initOrder.toList) = w2 :: ws) : P.liftsFinal = false := by
  unfold Program.liftsFinal
  rw [head_of P ws hb, hb]
  dsimp only
  have h := w2_ne (o := "carried") (by decide)
  have h' : ((w2 :: ws).head? == some "carried".toList) = false := by
    rw [List.head?_cons, beq_eq_false_iff_ne]
    rw [beq_eq_false_iff_ne] at h
    exact fun e => h (Option.some.inj e)
  rw [h']
  rfl
theorem make_of (P : Program) (ws : List (List Char)) (hb : behindMainWord (wordsSigns P.initOrder.toList) = w2 :: ws) : P.make = some .cut := by
  unfold Program.make
  rw [hb]
  dsimp only
  rw [w2_ne (o := "gc") (by decide), w2_ne (o := "spec") (by decide), w2_is, beq_self_eq_true w2]
  rfl
theorem lays_later : Try.prog.laysLater = false := by kernel_rfl
theorem bears_reflect : Try.prog.bearsReflect = false := by kernel_rfl
theorem door_fits : Try.prog.doorFits [] = true := by kernel_rfl
theorem may_enter : Try.prog.mayEnter = true := enter_of _ _ behind_is lays_later bears_reflect door_fits
theorem lifts_final : Try.prog.liftsFinal = false := final_of _ _ behind_is
theorem make_cut : Try.prog.make = some .cut := make_of _ _ behind_is
theorem maps_rowed : mapsRowed Try.prog = true := by kernel_rfl
theorem plain_keys : Try.prog.plainKeys = true := by kernel_rfl
theorem stops_heard : Try.prog.stopsHeard = true := by kernel_rfl
theorem stops_none : Try.prog.stops = [] := by kernel_rfl

def rowFacts (P : Program) (f : FuncId) (fn : Func) (s : ChangeSpec) (c : OpenClaim) : Bool :=
  c.wf (OpenSpec.ofChange s) &&
  fn.params.all (P.readableRec ·) && namedTie P c.named s.vars &&
  (c.stops == []) && (c.knobs == []) && (P.stopKnobs == []) &&
  (c.inPlace == P.inPlace f) && (c.unfollowed == P.unfollowed f) && (c.recurses == P.recurses f) && (c.named == P.varsNamed f) &&
  (c.maps == (fn.params.toList ++ s.plain.varTypes P).any (P.mapsRec ·)) && (c.ifaces == (fn.params.toList ++ s.plain.varTypes P).any (P.ifacesRec ·)) && (c.mapsOut == P.mapsAmong fn.resultTypes.toList) &&
  (c.loops == (fn.params.toList ++ s.plain.varTypes P).any (P.loopsFrom ·)) && (c.wideKeys == (fn.params.toList ++ s.plain.varTypes P ++ fn.resultTypes.toList).any (P.wideKeysFrom ·)) &&
  s.vars.all (P.varReadable ·) && fn.resultTypes.all (fun t => P.readableRec t && decide (t < P.types.size)) && (c.ifacesOut == fn.resultTypes.toList.any (P.ifacesRec ·)) && (c.loopsOut == fn.resultTypes.toList.any (P.loopsFrom ·)) && c.shortTexts.isNone && (c.kinds == (if c.domain.isEmpty then [] else fn.params.toList.map fun t => match P.underlying t with | some (.int k) => some k | _ => none)) && (c.pinned == c.pinnedBy) &&
  (c.veiled == (fn.params.toList ++ s.plain.varTypes P ++ fn.resultTypes.toList).any (P.veiledRec ·)) && c.veiledFits P fn.params.toList (fn.params.toList ++ s.plain.varTypes P ++ fn.resultTypes.toList) &&
  (c.plainKeys == true) && (c.lifted == false) && (some Make.cut == some c.make)

set_option maxRecDepth 100000 in
theorem joined_of {f : FuncId} {fn : Func} {s : ChangeSpec} {c : OpenClaim} (h : rowFacts Try.prog f fn s c = true) : joinedFacts Try.prog f fn s c = true := by
  unfold joinedFacts
  unfold rowFacts at h
  rw [laid_out, maps_rowed, plain_keys, stops_heard, stops_none, may_enter, lifts_final, make_cut]
  simp only [Bool.and_eq_true] at h ⊢
  obtain ⟨⟨⟨⟨⟨⟨⟨⟨⟨⟨⟨⟨⟨⟨⟨⟨⟨⟨⟨⟨⟨⟨⟨⟨⟨⟨k1, k2⟩, k3⟩, k4⟩, k5⟩, k6⟩, k7⟩, k8⟩, k9⟩, k10⟩, k11⟩, k12⟩, k13⟩, k14⟩, k15⟩, k16⟩, k17⟩, k18⟩, k19⟩, k20⟩, k21⟩, k22⟩, k23⟩, k24⟩, k25⟩, k26⟩, k27⟩ := h
  exact ⟨⟨⟨⟨⟨⟨⟨⟨⟨⟨⟨⟨⟨⟨⟨⟨⟨⟨⟨⟨⟨⟨⟨⟨⟨⟨⟨⟨⟨⟨⟨k1, (by first | rfl | trivial)⟩, (by first | rfl | trivial)⟩, k2⟩, k3⟩, k4⟩, (by first | rfl | trivial)⟩, k5⟩, k6⟩, k7⟩, k8⟩, k9⟩, k10⟩, k11⟩, k12⟩, k13⟩, k14⟩, k15⟩, k16⟩, k17⟩, k18⟩, k19⟩, k25⟩, k20⟩, (by first | rfl | trivial)⟩, (by first | rfl | trivial)⟩, k26⟩, k27⟩, k21⟩, k22⟩, k23⟩, k24⟩
end Go.Proofs.Ck

namespace Go.Proofs.Ck
open Go Go.RowKit Go.ChangeShapes Go.WideShapes Go.ChangeAt

section
variable {H : Type} {enc : TypeId × Value → H} {P : Program} {w : World} {base : Nat} {spare : Nat → Bool} {held : Bool}

theorem open_pair {r : Reach} {b0 : Nat} {t : TypeId} {f0 f1 : Field} {k0 k1 : IntKind} {v : Value} {d : DataW H} {p : List MemPlace} (hs : P.underlying t = some (.struct #[f0, f1])) (hone : Deep.oneCellFields P #[f0, f1] = true) (hC : P.cellsOf t = 2)
    (u0 : P.underlying f0.type = some (.int k0)) (u1 : P.underlying f1.type = some (.int k1))
    (hv : Value.okWide P w r b0 t v) (h : DataW.Trod enc P w base spare held t v d p) :
    ∃ x y : Int, v = .agg #[.int k0 x, .int k1 y] ∧ (Lit.int k0 x).wf = true ∧ (Lit.int k1 y).wf = true := by
  obtain ⟨v0, v1, y0, y1, n, rfl, _, _, h0, h1⟩ := Joins.open_agg2 hs hone hC hv h
  obtain ⟨x, hx0, _, w0⟩ := DataW.trod_int u0 h0
  obtain ⟨y, hy0, _, w1⟩ := DataW.trod_int u1 h1
  simp only [List.cons.injEq, and_true] at hx0 hy0
  exact ⟨x, y, by rw [hx0, hy0], w0, w1⟩
end
theorem wf_byte {n : Int} (h : (Lit.int .u8 n).wf = true) : ∃ x : Nat, n = (x : Int) ∧ x < 256 := by
  simp [Lit.wf, IntKind.min, IntKind.max, IntKind.signed, IntKind.bits] at h
  exact ⟨n.toNat, by omega, by omega⟩

section
variable {H : Type} {enc : TypeId × Value → H} {P : Program} {w : World} {base : Nat} {spare : Nat → Bool} {held : Bool}
end
end Go.Proofs.Ck
