/- Slices that read as lists of cells; append onto a row of the call's own. No program is named here. -/
import Derived.Test.YtpakfelekphbmaaBase
import Derived.Laws.AppendOwnNone
namespace Go.Proofs.Ck
open Go Go.RowKit

/-- The slice value '.slice A n c' holds the cells xs, k an element, in a block of S. -/
structure Row (S : Nat → Prop) (w : World) (A : Option Addr) (n k : Nat) (xs : List Value) : Prop where
  len : xs.length = n * k
  at_ : 0 < xs.length → ∃ b off, A = some ⟨b, off, none⟩ ∧ S b ∧ ∀ j u, xs[j]? = some u → w.cell? ⟨b, off + j, none⟩ = some u

theorem Row.empty {S : Nat → Prop} {w : World} {A : Option Addr} {k : Nat} : Row S w A 0 k [] := ⟨by simp, fun h => absurd h (by simp)⟩
theorem Row.move {S S' : Nat → Prop} {w w' : World} {A : Option Addr} {n k : Nat} {xs : List Value} (h : Row S w A n k xs)
    (hm : ∀ b o, S b → w.heap[b]? = some o → w'.heap[b]? = some o ∧ S' b) : Row S' w' A n k xs :=
  ⟨h.len, fun hp => by
    obtain ⟨b, off, rfl, hs, hc⟩ := h.at_ hp
    have hx : w.cell? ⟨b, off + 0, none⟩ = some (xs[0]) := hc 0 _ (List.getElem?_eq_getElem hp)
    obtain ⟨o, ho, -⟩ := cells_of_cell hx
    obtain ⟨h1, h2⟩ := hm b o hs ho
    exact ⟨b, off, rfl, h2, fun j u hj => (World.cell?_of_block (w := w) (a := ⟨b, off + j, none⟩) (h1.trans ho.symm)).trans (hc j u hj)⟩⟩
theorem Row.mono {S S' : Nat → Prop} {w : World} {A : Option Addr} {n k : Nat} {xs : List Value} (h : Row S w A n k xs) (hm : ∀ b, b < w.heap.size → S b → S' b) : Row S' w A n k xs :=
  h.move fun b _ hs ho => ⟨ho, hm b (lt_of_heap ho) hs⟩
theorem Row.grow {S : Nat → Prop} {w w' : World} {A : Option Addr} {n k : Nat} {xs : List Value} (h : Row S w A n k xs) (hg : Grow w w') : Row S w' A n k xs :=
  h.move fun _ _ hs ho => ⟨hg.heap ho, hs⟩
theorem Row.only {S M : Nat → Prop} {w w' : World} {A : Option Addr} {n k : Nat} {xs : List Value} (h : Row S w A n k xs) (hg : Only M w w') (hM : ∀ b, M b → ¬ S b) : Row S w' A n k xs :=
  h.move fun b _ hs ho => ⟨hg.heap ho (fun x => hM b x hs), hs⟩
theorem Row.pos {S : Nat → Prop} {w : World} {A : Option Addr} {n k : Nat} {xs : List Value} (h : Row S w A n k xs) (hn : 0 < n) (hk : 0 < k) :
    ∃ b off, A = some ⟨b, off, none⟩ ∧ S b ∧ ∀ j u, xs[j]? = some u → w.cell? ⟨b, off + j, none⟩ = some u :=
  h.at_ (by rw [h.len]; exact Nat.mul_pos hn hk)

theorem Row.of_own {w : World} {base : Nat} {e : TypeId} {k n : Nat} {v : Value} {xs : List Value} (h : w.ownsRow base e k v n xs) :
    ∃ A c, v = .slice A n c ∧ n ≤ c ∧ c ≤ maxLen ∧ Row (fun b => base ≤ b) w A n k xs := by
  rcases h.2 with ⟨rfl, rfl⟩ | ⟨g, cap, cur, rfl, hb, _, hn, hm, _⟩
  · have : xs = [] := List.eq_nil_of_length_eq_zero (by simpa using h.1)
    subst this
    exact ⟨none, 0, rfl, Nat.le_refl _, Nat.zero_le _, Row.empty⟩
  · refine ⟨_, cap, rfl, hn, hm, h.1, fun _ => ⟨g, 0, rfl, hb, fun j u hj => ?_⟩⟩
    have := h.cells (g := g) rfl j u hj
    have hadd : (⟨g, 0, none⟩ : Addr).add j = ⟨g, 0 + j, none⟩ := by unfold Addr.add; split <;> simp_all
    rwa [hadd] at this

theorem only_of_grown {w w' : World} {row : Option Nat} (h : w.grownBy w' row) : Only (fun b => row = some b) w w' :=
  ⟨h.os, h.tape, h.output, h.size, fun k hk hs => h.block k hk (fun e => hs e.symm)⟩

section
variable {P : Program}

theorem run_append_row {S : Nat → Prop} (w : World) (base : Nat) (t ty e : TypeId) (i : TypeInfo) (z : Value) (size bytes : Nat) (ht : P.underlying t = some (.slice e)) (hi : P.info? e = some i) (hz : i.zero = some z)
    (hsize : i.size = size) (hby : i.bytes = bytes) (hzs : z.cells.size = size) (hsz : 0 < size)
    (v : Value) (n : Nat) (xs : List Value) (hown : w.ownsRow base e size v n xs)
    (A : Option Addr) (m c : Nat) (news : List Value) (hr : Row S w A m size news) (hA : A = none → c = 0) (h1 : ∀ u ∈ news, u.oneCell' = true)
    (h63 : n + m ≤ maxLen) (hbytes : (n + m) * bytes ≤ 140737488355328) (hbase : base ≤ w.heap.size) :
    ∃ v' w', (Builtin.append_ #[t, t] ty #[v, .slice A m c]).run P w = .ok v' w' ∧ w'.ownsRow base e size v' (n + m) (xs ++ news) ∧ w.grownBy w' v.ownBlock := by
  cases A with
  | none =>
    have hm : m = 0 := by
      rcases Nat.eq_zero_or_pos m with h | h
      · exact h
      · obtain ⟨_, _, h', _⟩ := hr.pos h hsz; cases h'
    subst hm
    have hn : news = [] := List.eq_nil_of_length_eq_zero (by simpa using hr.len)
    subst hn
    rw [hA rfl]
    exact ⟨v, w, run_append_owned_none (P := P) w base t ty e i size ht hi v n xs hown, by simpa using hown, ⟨rfl, rfl, rfl, Nat.le_refl _, fun _ _ _ => rfl⟩⟩
  | some ad =>
    have hc : ∀ j u, news[j]? = some u → w.cell? (ad.add j) = some u := by
      intro j u hj
      obtain ⟨b, off, hb, _, hc⟩ := hr.at_ (by have := (List.getElem?_eq_some_iff.1 hj).1; omega)
      cases hb
      have hadd : (⟨b, off, none⟩ : Addr).add j = ⟨b, off + j, none⟩ := by unfold Addr.add; split <;> simp_all
      rw [hadd]
      exact hc j u hj
    obtain ⟨v', w', r1, r2, r3, _⟩ := run_append_own (P := P) w base t ty e i z size bytes ht hi hz hsize hby hzs hsz v n xs hown ad m c news hr.len hc h1 h63 hbytes hbase
    exact ⟨v', w', r1, r2, r3⟩

/-- 'append(s, x...)', s a row of the call's own. -/
theorem wpList_append_row {S : Nat → Prop} (w : World) {ops : Array Oper} {rest : List Oper} {o : Oper} {a : Act} {Q : Exit → Act → World → Prop} (hgd : o.guard = none) (s x : Operand) (t : TypeId)
    (ho : o.op = .call { callee := .builtin .append, args := #[s, x], argTypes := #[t, t] })
    (base : Nat) (e : TypeId) (i : TypeInfo) (z : Value) (size bytes : Nat) (ht : P.underlying t = some (.slice e)) (hi : P.info? e = some i) (hz : i.zero = some z)
    (hsize : i.size = size) (hby : i.bytes = bytes) (hzs : z.cells.size = size) (hsz : 0 < size)
    (v : Value) (n : Nat) (xs : List Value) (hs : a.eval s = v) (hown : w.ownsRow base e size v n xs)
    (A : Option Addr) (m c : Nat) (news : List Value) (hx : a.eval x = .slice A m c) (hr : Row S w A m size news) (hA : A = none → c = 0) (h1 : ∀ u ∈ news, u.oneCell' = true)
    (h63 : n + m ≤ maxLen) (hbytes : (n + m) * bytes ≤ 140737488355328) (hbase : base ≤ w.heap.size)
    (h : ∀ v' w', w'.ownsRow base e size v' (n + m) (xs ++ news) → Only (fun b => v.ownBlock = some b) w w' → wpList P ops Q rest (a.put o.dst v') w') : wpList P ops Q (o :: rest) a w := by
  refine wpList_plain hgd fun K hK => ?_
  obtain ⟨v', w', hrun, r1, r2⟩ := run_append_row (P := P) w base t o.type e i z size bytes ht hi hz hsize hby hzs hsz v n xs hown A m c news hr hA h1 h63 hbytes hbase
  unfold Oper.wp
  simp [execOp, ho, resolve, invoke, builtin, hs, hx, hrun, Result.andThen]
  exact hK _ _ (h v' w' r1 (only_of_grown r2))

/-- 'append(s, x)' of one element: the element lies in a block that has just been laid. -/
theorem wpList_push (w : World) {W : World} {ops : Array Oper} {rest : List Oper} {o : Oper} {a : Act} {Q : Exit → Act → World → Prop} (hgd : o.guard = none) (s x : Operand) (t : TypeId)
    (ho : o.op = .call { callee := .builtin .append, args := #[s, x], argTypes := #[t, t] })
    (base : Nat) (e : TypeId) (i : TypeInfo) (z : Value) (size bytes : Nat) (ht : P.underlying t = some (.slice e)) (hi : P.info? e = some i) (hz : i.zero = some z)
    (hsize : i.size = size) (hby : i.bytes = bytes) (hzs : z.cells.size = size) (hsz : 0 < size)
    (v : Value) (n : Nat) (xs : List Value) (hs : a.eval s = v) (hown : w.ownsRow base e size v n xs)
    (cs : Array Value) (hx : a.eval x = .slice (some ⟨w.heap.size, 0, none⟩) 1 1) (hcs : cs.size = size) (h1 : ∀ u ∈ cs.toList, u.oneCell' = true)
    (hW : W = w.alloc (.cells cs e)) (h63 : n + 1 ≤ maxLen) (hbytes : (n + 1) * bytes ≤ 140737488355328) (hbase : base ≤ w.heap.size)
    (h : ∀ v' w', w'.ownsRow base e size v' (n + 1) (xs ++ cs.toList) → Only (fun b => v.ownBlock = some b) w w' → wpList P ops Q rest (a.put o.dst v') w') : wpList P ops Q (o :: rest) a W := by
  subst hW
  have hnew : (w.alloc (.cells cs e)).heap[w.heap.size]? = some (.cells cs e (0, 0)) := World.alloc_heap_new w _
  refine wpList_append_row (S := fun _ => True) (w.alloc (.cells cs e)) hgd s x t ho base e i z size bytes ht hi hz hsize hby hzs hsz v n xs hs (hown.alloc _)
    (some ⟨w.heap.size, 0, none⟩) 1 1 cs.toList hx ⟨by simpa using hcs, fun _ => ⟨_, _, rfl, trivial, fun j u hj => ?_⟩⟩ (fun h => by cases h) h1 h63 hbytes (by simp; omega) fun v' w' r1 r2 => h v' w' r1 ?_
  · rw [cell_of_heap hnew]; simpa using hj
  · have r0 : Only (fun b => v.ownBlock = some b) w (w.alloc (.cells cs e)) := (Only.refl _ _).alloc _
    exact r0.trans r2

theorem wpListIn_append_row {F : Fence} {f : Nat} {S : Nat → Prop} (w : World) {ops : Array Oper} {rest : List Oper} {o : Oper} {a : Act} {Q : Exit → Act → World → Prop} (hgd : o.guard = none) (s x : Operand) (t : TypeId)
    (ho : o.op = .call { callee := .builtin .append, args := #[s, x], argTypes := #[t, t] })
    (base : Nat) (e : TypeId) (i : TypeInfo) (z : Value) (size bytes : Nat) (ht : P.underlying t = some (.slice e)) (hi : P.info? e = some i) (hz : i.zero = some z)
    (hsize : i.size = size) (hby : i.bytes = bytes) (hzs : z.cells.size = size) (hsz : 0 < size)
    (v : Value) (n : Nat) (xs : List Value) (hs : a.eval s = v) (hown : w.ownsRow base e size v n xs)
    (A : Option Addr) (m c : Nat) (news : List Value) (hx : a.eval x = .slice A m c) (hr : Row S w A m size news) (hA : A = none → c = 0) (h1 : ∀ u ∈ news, u.oneCell' = true)
    (h63 : n + m ≤ maxLen) (hbytes : (n + m) * bytes ≤ 140737488355328) (hbase : base ≤ w.heap.size)
    (h : ∀ v' w', w'.ownsRow base e size v' (n + m) (xs ++ news) → Only (fun b => v.ownBlock = some b) w w' → wpListIn F f P ops Q rest (a.put o.dst v') w') : wpListIn F f P ops Q (o :: rest) a w := by
  refine wpListIn_plain hgd fun K hK => ?_
  obtain ⟨v', w', hrun, r1, r2⟩ := run_append_row (P := P) w base t o.type e i z size bytes ht hi hz hsize hby hzs hsz v n xs hown A m c news hr hA h1 h63 hbytes hbase
  unfold Oper.wpIn
  refine ⟨?_, ?_⟩
  · simp [Oper.about, ho, resolve, Target.leads, Sem.run_pure]
  · rw [Oper.semAt_plain F _ _ (by rw [ho]; intro c hc'; cases hc')]
    simp [execOp, ho, resolve, invoke, builtin, hs, hx, hrun, Result.andThen]
    exact hK _ _ (h v' w' r1 (only_of_grown r2))

theorem wpListIn_push {F : Fence} {f : Nat} (w : World) {W : World} {ops : Array Oper} {rest : List Oper} {o : Oper} {a : Act} {Q : Exit → Act → World → Prop} (hgd : o.guard = none) (s x : Operand) (t : TypeId)
    (ho : o.op = .call { callee := .builtin .append, args := #[s, x], argTypes := #[t, t] })
    (base : Nat) (e : TypeId) (i : TypeInfo) (z : Value) (size bytes : Nat) (ht : P.underlying t = some (.slice e)) (hi : P.info? e = some i) (hz : i.zero = some z)
    (hsize : i.size = size) (hby : i.bytes = bytes) (hzs : z.cells.size = size) (hsz : 0 < size)
    (v : Value) (n : Nat) (xs : List Value) (hs : a.eval s = v) (hown : w.ownsRow base e size v n xs)
    (cs : Array Value) (hx : a.eval x = .slice (some ⟨w.heap.size, 0, none⟩) 1 1) (hcs : cs.size = size) (h1 : ∀ u ∈ cs.toList, u.oneCell' = true)
    (hW : W = w.alloc (.cells cs e)) (h63 : n + 1 ≤ maxLen) (hbytes : (n + 1) * bytes ≤ 140737488355328) (hbase : base ≤ w.heap.size)
    (h : ∀ v' w', w'.ownsRow base e size v' (n + 1) (xs ++ cs.toList) → Only (fun b => v.ownBlock = some b) w w' → wpListIn F f P ops Q rest (a.put o.dst v') w') : wpListIn F f P ops Q (o :: rest) a W := by
  subst hW
  have hnew : (w.alloc (.cells cs e)).heap[w.heap.size]? = some (.cells cs e (0, 0)) := World.alloc_heap_new w _
  refine wpListIn_append_row (S := fun _ => True) (w.alloc (.cells cs e)) hgd s x t ho base e i z size bytes ht hi hz hsize hby hzs hsz v n xs hs (hown.alloc _)
    (some ⟨w.heap.size, 0, none⟩) 1 1 cs.toList hx ⟨by simpa using hcs, fun _ => ⟨_, _, rfl, trivial, fun j u hj => ?_⟩⟩ (fun h => by cases h) h1 h63 hbytes (by simp; omega) fun v' w' r1 r2 => h v' w' r1 ?_
  · rw [cell_of_heap hnew]; simpa using hj
  · have r0 : Only (fun b => v.ownBlock = some b) w (w.alloc (.cells cs e)) := (Only.refl _ _).alloc _
    exact r0.trans r2
end

theorem own_form {w : World} {base : Nat} {e : TypeId} {k n : Nat} {v : Value} {xs : List Value} (h : w.ownsRow base e k v n xs) (hn : 0 < n) :
    ∃ g cap cur, v = .slice (some ⟨g, 0, none⟩) n cap ∧ base ≤ g ∧ w.heap[g]? = some (.cells cur e (0, 0)) ∧ n ≤ cap ∧ cap ≤ maxLen ∧ cur.size = cap * k ∧ (∀ (j : Nat) (u : Value), xs[j]? = some u → cur[j]? = some u) := by
  rcases h.2 with ⟨_, h0⟩ | ⟨g, cap, cur, rfl, hb, hg, hc, hm, hz, ht⟩
  · omega
  · refine ⟨g, cap, cur, rfl, hb, hg, hc, hm, hz, fun j u hj => ?_⟩
    rw [← ht, List.getElem?_take] at hj
    split at hj
    · simpa using hj
    · cases hj

theorem own_some {w : World} {base : Nat} {e : TypeId} {k n g cap : Nat} {xs : List Value} (h : w.ownsRow base e k (.slice (some ⟨g, 0, none⟩) n cap) n xs) :
    ∃ cur : Array Value, base ≤ g ∧ w.heap[g]? = some (.cells cur e (0, 0)) ∧ n ≤ cap ∧ cap ≤ maxLen ∧ cur.size = cap * k ∧ (∀ (j : Nat) (u : Value), xs[j]? = some u → cur[j]? = some u) := by
  rcases h.2 with ⟨h', _⟩ | ⟨g', cap', cur, h', hb, hg, hc, hm, hz, ht⟩
  · simp at h'
  · simp only [Value.slice.injEq, Option.some.injEq, Addr.mk.injEq, and_true, true_and] at h'
    obtain ⟨rfl, rfl⟩ := h'
    refine ⟨cur, hb, hg, hc, hm, hz, fun j u hj => ?_⟩
    rw [← ht, List.getElem?_take] at hj
    split at hj
    · simpa using hj
    · cases hj

/-- A row that is known by its block. -/
theorem Row.of_block {S : Nat → Prop} {w : World} {g : Nat} {cur : Array Value} {e : TypeId} {n k : Nat} {xs : List Value} {f : Nat × Nat} (hg : w.heap[g]? = some (.cells cur e f)) (hs : S g)
    (hl : xs.length = n * k) (hx : ∀ (j : Nat) (u : Value), xs[j]? = some u → cur[j]? = some u) : Row S w (some ⟨g, 0, none⟩) n k xs :=
  ⟨hl, fun _ => ⟨g, 0, rfl, hs, fun j u hj => by rw [cell_of_heap hg, Nat.zero_add]; exact hx j u hj⟩⟩

theorem own_ge {w : World} {base : Nat} {e : TypeId} {size : Nat} {v : Value} {n : Nat} {xs : List Value} (h : w.ownsRow base e size v n xs) : ∀ b, v.ownBlock = some b → base ≤ b := fun b hb => (h.lt b hb).1
theorem grow_own {w wr w1 : World} {e : TypeId} {size : Nat} {v : Value} {n : Nat} {xs : List Value} (hg : Grow w wr) (hown : wr.ownsRow w.heap.size e size v n xs) (ho : Only (fun b => v.ownBlock = some b) wr w1) : Grow w w1 :=
  Below.trans hg (ho.below hg.size (own_ge hown))
theorem own_grow {w w' : World} {base : Nat} {e : TypeId} {size : Nat} {v : Value} {n : Nat} {xs : List Value} (h : w.ownsRow base e size v n xs) (hg : Grow w w') : w'.ownsRow base e size v n xs := by
  refine ⟨h.1, ?_⟩
  rcases h.2 with hn | ⟨g, cap, cur, rfl, hb, hgg, rest⟩
  · exact .inl hn
  · exact .inr ⟨g, cap, cur, rfl, hb, hg.heap hgg, rest⟩
end Go.Proofs.Ck
