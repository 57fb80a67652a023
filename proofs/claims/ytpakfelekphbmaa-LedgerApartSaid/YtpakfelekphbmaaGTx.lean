/- Parts of the proofs of this seat's laws. -/
import Derived.Test.YtpakfelekphbmaaGSeg
import Derived.MapKept
import Derived.Carry
import Derived.Lib.Hide
import Derived.Test.YtpakfelekphbmaaRows
import Derived.Laws.Externs
import Derived.Laws.Bits64b
import Derived.Laws.Rows

namespace Go.Proofs.Ck
open Go Go.RowKit

/-- The word that is thought of at an offset. -/
def plook (p : List (Nat × Nat)) (off : Nat) : Option Nat := (p.find? (fun q => q.1 == off)).map (·.2)
/-- The words that are thought of behind one more. -/
def pput (p : List (Nat × Nat)) (off v : Nat) : List (Nat × Nat) :=
  if (plook p off).isSome then p.map (fun q => if q.1 = off then (off, v) else q) else p ++ [(off, v)]

/-- A map's entries are these words, in turn. -/
def Entries (es : Array MapEntry) (p : List (Nat × Nat)) : Prop :=
  es.toList.map (fun e => (e.key, e.val)) = p.map (fun q => (Value.int .u64 (q.1 : Int), Value.int .u64 (q.2 : Int)))

theorem plook_cons (q : Nat × Nat) (p : List (Nat × Nat)) (off : Nat) : plook (q :: p) off = if q.1 = off then some q.2 else plook p off := by
  unfold plook
  rw [List.find?_cons]
  by_cases h : q.1 = off
  · simp [h]
  · have : (q.1 == off) = false := by simpa using h
    rw [this]
    simp only [if_neg h]

theorem findNow_at (off : Nat) : ∀ (l : List MapEntry) (p : List (Nat × Nat)) (i : Nat), l.map (fun e => (e.key, e.val)) = p.map (fun q => (Value.int .u64 (q.1 : Int), Value.int .u64 (q.2 : Int))) →
    (plook p off = none ∧ Instr.findNow (.int .u64) (.int .u64 (off : Int)) l i = some none) ∨
    ∃ j v, plook p off = some v ∧ j < l.length ∧ (p[j]?).map (·.1) = some off ∧ (∀ k, k < j → (p[k]?).map (·.1) ≠ some off) ∧ Instr.findNow (.int .u64) (.int .u64 (off : Int)) l i = some (some (i + j, .int .u64 (v : Int)))
  | [], p, i, h => by
    have : p = [] := by cases p with | nil => rfl | cons a b => simp at h
    subst this
    exact .inl ⟨rfl, rfl⟩
  | e :: l, [], i, h => by simp at h
  | e :: l, q :: p, i, h => by
    simp only [List.map_cons, List.cons.injEq, Prod.mk.injEq] at h
    obtain ⟨⟨hk, hv⟩, ht⟩ := h
    rw [plook_cons]
    unfold Instr.findNow
    rw [hk, hv]
    by_cases he : q.1 = off
    · refine .inr ⟨0, q.2, by rw [if_pos he], by simp, by simp [he], fun k hk => by omega, ?_⟩
      simp [Instr.sameNow, he]
    · rw [if_neg he]
      have hs : Instr.sameNow (.int .u64) (.int .u64 (off : Int)) (.int .u64 (q.1 : Int)) = some false := by
        simp [Instr.sameNow]
        omega
      rw [hs]
      rcases findNow_at off l p (i + 1) ht with ⟨h1, h2⟩ | ⟨j, v, h1, h2, h3, h4, h5⟩
      · exact .inl ⟨h1, h2⟩
      · refine .inr ⟨j + 1, v, h1, by simpa using h2, by simpa using h3, fun k hk => ?_, ?_⟩
        · cases k with
          | zero => simpa using he
          | succ k => simpa using h4 k (by omega)
        · simp only [h5]
          congr 3
          omega

section
variable {P : Program} {w : World} {mt kt et : TypeId} {mb clock : Nat} {es : Array MapEntry} {p : List (Nat × Nat)}

theorem run_lookup_some (hm : P.underlying mt = some (.map kt et)) (hk : P.underlying kt = some (.int .u64)) (hb : w.heap[mb]? = some (.map es clock)) (he : Entries es p) {off v : Nat} (h : plook p off = some v) :
    (Instr.lookup mt (.map (some mb)) (.int .u64 (off : Int)) true).run P w = .ok (.tuple #[.int .u64 (v : Int), .bool true]) w := by
  have hc : ∀ b, (Instr.checkKey b 10000 kt (.int .u64 (off : Int))).run P w = .ok () w := fun b => MapKept.run_checkKey (k := .int .u64 (off : Int)) hk (by simp [MapKept.IsKey]) b 9999
  rcases findNow_at off es.toList p 0 he with ⟨h1, _⟩ | ⟨j, v', h1, _, _, _, h5⟩
  · rw [h1] at h; cases h
  · rw [h1] at h
    cases h
    simp [Instr.lookup, run_underlying hm, MapKept.run_getObj_map hb, hc, MapKept.run_findKey hk h5, Result.andThen]

theorem run_lookup_none (hm : P.underlying mt = some (.map kt et)) (hk : P.underlying kt = some (.int .u64)) (hz : ∀ w, (zeroValue et).run P w = .ok (.int .u64 0) w) (hb : w.heap[mb]? = some (.map es clock)) (he : Entries es p) {off : Nat} (h : plook p off = none) :
    (Instr.lookup mt (.map (some mb)) (.int .u64 (off : Int)) true).run P w = .ok (.tuple #[.int .u64 0, .bool false]) w := by
  have hc : ∀ b, (Instr.checkKey b 10000 kt (.int .u64 (off : Int))).run P w = .ok () w := fun b => MapKept.run_checkKey (k := .int .u64 (off : Int)) hk (by simp [MapKept.IsKey]) b 9999
  rcases findNow_at off es.toList p 0 he with ⟨_, h1⟩ | ⟨j, v', h1, _⟩
  · simp [Instr.lookup, run_underlying hm, MapKept.run_getObj_map hb, hc, MapKept.run_findKey hk h1, Result.andThen, hz]
  · rw [h] at h1; cases h1

theorem nodup_at {l : List Nat} (h : l.Nodup) {i j x : Nat} (h1 : l[i]? = some x) (h2 : l[j]? = some x) : i = j := by
  obtain ⟨hi, e1⟩ := List.getElem?_eq_some_iff.1 h1
  obtain ⟨hj, e2⟩ := List.getElem?_eq_some_iff.1 h2
  have hp := List.pairwise_iff_getElem.1 h
  rcases Nat.lt_trichotomy i j with hij | hij | hij
  · exact absurd (e1.trans e2.symm) (hp i j hi hj hij)
  · exact hij
  · exact absurd (e2.trans e1.symm) (hp j i hj hi hij)

theorem plook_mem {p : List (Nat × Nat)} {off : Nat} : (plook p off).isSome ↔ off ∈ p.map (·.1) := by
  induction p with
  | nil => simp [plook]
  | cons q p ih =>
    rw [plook_cons, List.map_cons, List.mem_cons]
    by_cases h : q.1 = off
    · simp [h]
    · rw [if_neg h, ih]
      constructor
      · exact .inr
      · rintro (h' | h')
        · exact absurd h'.symm h
        · exact h'
theorem pput_keys {p : List (Nat × Nat)} {off v : Nat} : (pput p off v).map (·.1) = if (plook p off).isSome then p.map (·.1) else p.map (·.1) ++ [off] := by
  unfold pput
  split
  · rw [List.map_map]
    apply List.map_congr_left
    intro q _
    simp only [Function.comp]
    split
    · next h => exact h.symm
    · rfl
  · simp

/-- A word is written into the map. -/
theorem run_mapUpdate_word (hm : P.underlying mt = some (.map kt et)) (hk : P.underlying kt = some (.int .u64)) (hb : w.heap[mb]? = some (.map es clock)) (he : Entries es p) (hd : (p.map (·.1)).Nodup) (off v : Nat) :
    ∃ es' clock', (Instr.mapUpdate mt (.map (some mb)) (.int .u64 (off : Int)) (.int .u64 (v : Int))).run P w = .ok () { w with heap := w.heap.setIfInBounds mb (.map es' clock') } ∧ Entries es' (pput p off v) := by
  have hkey : MapKept.IsKey (.int .u64) (.int .u64 (off : Int)) := by simp [MapKept.IsKey]
  have hc : (Instr.checkKey false 10000 kt (.int .u64 (off : Int))).run P w = .ok () w := MapKept.run_checkKey (k := .int .u64 (off : Int)) hk hkey false 9999
  rcases findNow_at off es.toList p 0 he with ⟨h1, h2⟩ | ⟨j, v', h1, h2, h3, h4, h5⟩
  · refine ⟨es.push ⟨.int .u64 (off : Int), .int .u64 (v : Int), clock⟩, clock + 1, ?_, ?_⟩
    · simp [Instr.mapUpdate, run_underlying hm, MapKept.run_getObj_map hb, hc, MapKept.run_findKey hk h2, MapKept.run_setObj_map _ hb, Result.andThen]
    · unfold Entries pput at *
      rw [h1]
      simp [he]
  · have hkj : ((es[j]?).map (·.key)).getD (.int .u64 (off : Int)) = .int .u64 (off : Int) := by
      have := congrArg (fun l => (l[j]?).map (·.1)) he
      simp only [List.getElem?_map] at this
      cases hp : p[j]? with
      | none => rw [hp] at h3; simp at h3
      | some q =>
        rw [hp] at h3 this
        simp only [Option.map_some, Option.some.injEq] at h3
        cases hes : es[j]? with
        | none => simp
        | some e =>
          have hes' : es.toList[j]? = some e := by simpa using hes
          rw [hes'] at this
          simp only [Option.map_some, Option.some.injEq] at this
          simp [this, h3]
    refine ⟨es.modify j (fun e => { e with key := .int .u64 (off : Int), val := .int .u64 (v : Int) }), clock, ?_, ?_⟩
    · simp only [Instr.mapUpdate, Sem.run_bind, run_underlying hm, MapKept.run_getObj_map hb, hc, MapKept.run_findKey hk h5, Result.andThen, Nat.zero_add, hkj, MapKept.run_keyThatStays hkey, MapKept.run_setObj_map _ hb]
    · unfold Entries at *
      have hs : (plook p off).isSome = true := by rw [h1]; rfl
      unfold pput
      rw [if_pos hs]
      apply List.ext_getElem?
      intro i
      have hi := congrArg (fun l => l[i]?) he
      simp only [List.getElem?_map] at hi ⊢
      rw [Array.toList_modify, List.getElem?_modify]
      cases hpi : p[i]? with
      | none =>
        rw [hpi] at hi
        cases hei : es.toList[i]? with
        | none => rfl
        | some e => rw [hei] at hi; simp at hi
      | some q =>
        rw [hpi] at hi
        cases hei : es.toList[i]? with
        | none => rw [hei] at hi; simp at hi
        | some e =>
          rw [hei] at hi
          simp only [Option.map_some, Option.some.injEq, Prod.mk.injEq] at hi
          obtain ⟨hi1, hi2⟩ := hi
          by_cases hji : j = i
          · subst hji
            rw [hpi] at h3
            simp only [Option.map_some, Option.some.injEq] at h3
            simp [h3]
          · have hne : q.1 ≠ off := by
              intro e1
              have a1 : (p.map (·.1))[i]? = some off := by simp [hpi, e1]
              have a2 : (p.map (·.1))[j]? = some off := by simpa using h3
              exact hji (nodup_at hd a2 a1)
            simp [hji, hne, hi1, hi2]
end
end Go.Proofs.Ck

namespace Go.Proofs.Ck
open Go Go.RowKit

/-- A segment's words, and those that are thought of. -/
structure St where
  W : List Nat
  p : List (Nat × Nat)
/-- A word's old value, and what is thought of. -/
def St.old (σ : St) (off : Nat) : Nat := if off % 8 = 0 ∧ off / 8 < σ.W.length then σ.W.getD (off / 8) 0 else 0
def St.load (σ : St) (off : Nat) : Nat := (plook σ.p off).getD (σ.old off)
def St.store (σ : St) (off v : Nat) : St := if off % 8 = 0 ∧ off / 8 < σ.W.length then ⟨σ.W, pput σ.p off v⟩ else σ

structure TxRep (w : World) (base tb mb : Nat) (T : Value) (sb bb cap : Nat) (cs : Array Value) (σ : St) : Prop where
  tx : w.heap[tb]? = some (.cells #[.pointer (some ⟨sb, 0, none⟩), .map (some mb), T] 194 (0, 0))
  seg : SegRep w sb bb cap cs σ.W
  map : ∃ es clock, w.heap[mb]? = some (.map es clock) ∧ Entries es σ.p
  turn : w.ownsRow base 22 1 T σ.p.length (u64s (σ.p.map (·.1)))
  nodup : (σ.p.map (·.1)).Nodup
  dom : ∀ q ∈ σ.p, (q.1 % 8 = 0 ∧ q.1 / 8 < σ.W.length) ∧ q.1 < 18446744073709551616 ∧ q.2 < 18446744073709551616
  baseT : base ≤ tb
  baseM : base ≤ mb
  baseS : sb < base ∧ bb < base

/-- The blocks that it may turn. -/
def Mut (tb mb : Nat) (T : Value) (b : Nat) : Prop := b = tb ∨ b = mb ∨ T.ownBlock = some b

/-- A pointer to such. -/
def TxAt (w : World) (base : Nat) (v : Value) (M : Nat → Prop) (σ : St) : Prop :=
  ∃ tb mb T sb bb cap cs, v = .pointer (some ⟨tb, 0, none⟩) ∧ M = Mut tb mb T ∧ TxRep w base tb mb T sb bb cap cs σ

theorem TxRep.grow {w w' : World} {base tb mb : Nat} {T : Value} {sb bb cap : Nat} {cs : Array Value} {σ : St} (h : TxRep w base tb mb T sb bb cap cs σ) (hg : Grow w w') : TxRep w' base tb mb T sb bb cap cs σ :=
  { h with tx := hg.heap h.tx, seg := h.seg.grow hg, map := by obtain ⟨es, c, h1, h2⟩ := h.map; exact ⟨es, c, hg.heap h1, h2⟩, turn := own_grow h.turn hg }
theorem TxAt.grow {w w' : World} {base : Nat} {v : Value} {M : Nat → Prop} {σ : St} (h : TxAt w base v M σ) (hg : Grow w w') : TxAt w' base v M σ := by
  obtain ⟨tb, mb, T, sb, bb, cap, cs, h1, h2, h3⟩ := h
  exact ⟨tb, mb, T, sb, bb, cap, cs, h1, h2, h3.grow hg⟩
theorem TxAt.base {w : World} {base : Nat} {v : Value} {M : Nat → Prop} {σ : St} (h : TxAt w base v M σ) : ∀ b, M b → base ≤ b := by
  obtain ⟨tb, mb, T, sb, bb, cap, cs, h1, rfl, h3⟩ := h
  rintro b (rfl | rfl | hb)
  · exact h3.baseT
  · exact h3.baseM
  · exact own_ge h3.turn b hb
theorem old_call {w : World} {base : Nat} {v : Value} {M : Nat → Prop} {σ : St} (h : TxAt w base v M σ) (off : Nat) (ho : off < 18446744073709551616) :
    Calls Try.prog 172 #[v, .int .u64 (off : Int)] w fun e w' => e = .returned (.int .u64 ((σ.old off : Nat) : Int)) ∧ Grow w w' := by
  obtain ⟨tb, mb, T, sb, bb, cap, cs, rfl, rfl, h⟩ := h
  have c0 : w.cell? ⟨tb, 0, none⟩ = some (.pointer (some ⟨sb, 0, none⟩)) := by rw [cell_of_heap h.tx]; rfl
  have hs := h.seg
  clear h
  unfold St.old
  split
  · next hc =>
    obtain ⟨hm, hl⟩ := hc
    have hld := load_ok hs off hm hl
    generalize σ.W.getD (off / 8) 0 = V at *
    go_enter Try.func172, Try.ntmps172
    go_wp2_with fail
    refine hld.mono ?_
    rintro e w1 ⟨rfl, hg⟩
    go_wp2
    go_ret
    exact ⟨rfl, hg⟩
  · next hc =>
    have hld := load_bad hs off ho hc
    go_enter Try.func172, Try.ntmps172
    go_wp2_with fail
    refine hld.mono ?_
    rintro e w1 ⟨rfl, rfl⟩
    go_wp2
    go_ret
    exact ⟨rfl, Below.refl _ _⟩
theorem zero22 (w : World) : (zeroValue 22).run Try.prog w = .ok (.int .u64 0) w := by
  first
  | exact Try.zeroValue22 w
  | exact Try.zero22 w

theorem load_call {w : World} {base : Nat} {v : Value} {M : Nat → Prop} {σ : St} (h : TxAt w base v M σ) (off : Nat) (ho : off < 18446744073709551616) :
    Calls Try.prog 118 #[v, .int .u64 (off : Int)] w fun e w' => e = .returned (.int .u64 ((σ.load off : Nat) : Int)) ∧ Grow w w' := by
  have hold := old_call h off ho
  obtain ⟨tb, mb, T, sb, bb, cap, cs, rfl, rfl, h⟩ := h
  have c1 : w.cell? ⟨tb, 1, none⟩ = some (.map (some mb)) := by rw [cell_of_heap h.tx]; rfl
  obtain ⟨es, clock, hm, he⟩ := h.map
  unfold St.load
  cases hl : plook σ.p off with
  | some V =>
    have hlk := run_lookup_some (P := Try.prog) Try.underlying192 Try.underlying22 hm he hl
    clear hold h he hm
    simp only [Option.getD_some]
    go_enter Try.func118, Try.ntmps118
    go_wp2
    go_ret
    exact ⟨rfl, Below.refl _ _⟩
  | none =>
    have hlk := run_lookup_none (P := Try.prog) Try.underlying192 Try.underlying22 zero22 hm he hl
    clear h he hm
    simp only [Option.getD_none]
    go_enter Try.func118, Try.ntmps118
    go_wp2_with fail
    refine hold.mono ?_
    rintro e w1 ⟨rfl, hg⟩
    go_wp2
    go_ret
    exact ⟨rfl, hg⟩
end Go.Proofs.Ck

namespace Go.Proofs.Ck
open Go Go.RowKit

section
variable {P : Program}

theorem run_append_where (w : World) (base : Nat) (t ty e : TypeId) (i : TypeInfo) (z : Value) (size bytes : Nat) (ht : P.underlying t = some (.slice e)) (hi : P.info? e = some i) (hz : i.zero = some z)
    (hsize : i.size = size) (hby : i.bytes = bytes) (hzs : z.cells.size = size) (hsz : 0 < size)
    (v : Value) (n : Nat) (xs : List Value) (hown : w.ownsRow base e size v n xs)
    (a : Addr) (m c : Nat) (news : List Value) (hm : 0 < m) (hl : news.length = m * size) (hnews : ∀ j u, news[j]? = some u → w.cell? (a.add j) = some u) (h1 : ∀ u ∈ news, u.oneCell' = true)
    (h63 : n + m ≤ maxLen) (hbytes : (n + m) * bytes ≤ 140737488355328) {v' : Value} {w' : World} (hr : (Builtin.append_ #[t, t] ty #[v, .slice (some a) m c]).run P w = .ok v' w') :
    v'.ownBlock = v.ownBlock ∨ v'.ownBlock = some w.heap.size := by
  subst hsize
  subst hby
  have hsmall : n + m ≤ 9223372036854775807 := by simp only [maxLen] at h63; omega
  rcases hown.2 with ⟨rfl, rfl⟩ | ⟨g, cap, cur, rfl, hbg, hg, hnc, hcm, hcs, htake⟩
  · have hr2 := run_append_nil (P := P) w t ty e i z ht hi hz a m c news hl hnews (by omega) (by omega) (by have hb := hbytes; simp only [Nat.zero_add] at hb; omega)
    rw [hr2] at hr
    cases hr
    exact .inr rfl
  · by_cases hroom : n + m ≤ cap
    · have hfit : n * i.size + news.length ≤ cur.size := by rw [hl, hcs, ← Nat.add_mul]; exact Nat.mul_le_mul_right _ hroom
      have hr2 := run_append_room (P := P) w t ty e i ht hi g n cap cur hg a m c news hl hnews h1 hroom hfit
      rw [hr2] at hr
      cases hr
      exact .inl rfl
    · have holds : ∀ j u, xs[j]? = some u → w.cell? ((⟨g, 0, none⟩ : Addr).add j) = some u := hown.cells (g := g) rfl
      have hr2 := run_append_grow (P := P) w t ty e i z ht hi hz ⟨g, 0, none⟩ n cap xs hown.1 holds a m c news hl hnews (by omega) (by omega) (growslice_fits (by omega) hbytes)
      rw [hr2] at hr
      cases hr
      exact .inr rfl

/-- 'append(s, x)' of one element, and where the row lies then: where it lay, or in a new block. -/
theorem wpList_push2 (w : World) {W : World} {ops : Array Oper} {rest : List Oper} {o : Oper} {a : Act} {Q : Exit → Act → World → Prop} (hgd : o.guard = none) (s x : Operand) (t : TypeId)
    (ho : o.op = .call { callee := .builtin .append, args := #[s, x], argTypes := #[t, t] })
    (base : Nat) (e : TypeId) (i : TypeInfo) (z : Value) (size bytes : Nat) (ht : P.underlying t = some (.slice e)) (hi : P.info? e = some i) (hz : i.zero = some z)
    (hsize : i.size = size) (hby : i.bytes = bytes) (hzs : z.cells.size = size) (hsz : 0 < size)
    (v : Value) (n : Nat) (xs : List Value) (hs : a.eval s = v) (hown : w.ownsRow base e size v n xs)
    (cs : Array Value) (hx : a.eval x = .slice (some ⟨w.heap.size, 0, none⟩) 1 1) (hcs : cs.size = size) (h1 : ∀ u ∈ cs.toList, u.oneCell' = true)
    (hW : W = w.alloc (.cells cs e)) (h63 : n + 1 ≤ maxLen) (hbytes : (n + 1) * bytes ≤ 140737488355328) (hbase : base ≤ w.heap.size)
    (h : ∀ v' w', w'.ownsRow base e size v' (n + 1) (xs ++ cs.toList) → Only (fun b => v.ownBlock = some b) w w' → (∀ b, v'.ownBlock = some b → v.ownBlock = some b ∨ w.heap.size ≤ b) → wpList P ops Q rest (a.put o.dst v') w') : wpList P ops Q (o :: rest) a W := by
  subst hW
  have hnew : (w.alloc (.cells cs e)).heap[w.heap.size]? = some (.cells cs e (0, 0)) := World.alloc_heap_new w _
  have hcell : ∀ j u, cs.toList[j]? = some u → (w.alloc (.cells cs e)).cell? ((⟨w.heap.size, 0, none⟩ : Addr).add j) = some u := by
    intro j u hj
    have hadd : (⟨w.heap.size, 0, none⟩ : Addr).add j = ⟨w.heap.size, j, none⟩ := by unfold Addr.add; split <;> simp_all
    rw [hadd, cell_of_heap hnew]
    simpa using hj
  obtain ⟨v', w', r1, r2, r3, _⟩ := run_append_own (P := P) (w.alloc (.cells cs e)) base t o.type e i z size bytes ht hi hz hsize hby hzs hsz v n xs (hown.alloc _)
    ⟨w.heap.size, 0, none⟩ 1 1 cs.toList (by simpa using hcs) hcell h1 h63 hbytes (by simp; omega)
  have hwh := run_append_where (P := P) (w.alloc (.cells cs e)) base t o.type e i z size bytes ht hi hz hsize hby hzs hsz v n xs (hown.alloc _)
    ⟨w.heap.size, 0, none⟩ 1 1 cs.toList (by omega) (by simpa using hcs) hcell h1 h63 hbytes r1
  refine wpList_plain hgd fun K hK => ?_
  unfold Oper.wp
  simp [execOp, ho, resolve, invoke, builtin, hs, hx, r1, Result.andThen]
  refine hK _ _ (h v' w' r2 ?_ ?_)
  · have r0 : Only (fun b => v.ownBlock = some b) w (w.alloc (.cells cs e)) := (Only.refl _ _).alloc _
    exact r0.trans (only_of_grown r3)
  · intro b hb
    rcases hwh with h' | h'
    · exact .inl (h' ▸ hb)
    · rw [h'] at hb
      cases hb
      exact .inr (by simp)
end
end Go.Proofs.Ck

namespace Go.Proofs.Ck
open Go Go.RowKit

theorem Only.heapSet {S : Nat → Prop} {a b : World} (h : Only S a b) {r : Nat} (hr : S r) (o : Obj) : Only S a { b with heap := b.heap.setIfInBounds r o } :=
  h.trans ⟨rfl, rfl, rfl, by simp, fun k _ hs => by
    have : r ≠ k := fun e => hs (e ▸ hr)
    simp [this]⟩

theorem own_moved {w w' : World} {base : Nat} {e : TypeId} {k n : Nat} {v : Value} {xs : List Value} (h : w.ownsRow base e k v n xs) (hm : ∀ b, v.ownBlock = some b → w'.heap[b]? = w.heap[b]?) : w'.ownsRow base e k v n xs := by
  refine ⟨h.1, ?_⟩
  rcases h.2 with h0 | ⟨g, cap, cur, rfl, hb, hg, hr⟩
  · exact .inl h0
  · exact .inr ⟨g, cap, cur, rfl, hb, (hm g rfl).trans hg, hr⟩
theorem own_cells {w : World} {base : Nat} {e : TypeId} {k n : Nat} {v : Value} {xs : List Value} (h : w.ownsRow base e k v n xs) {b : Nat} (hb : v.ownBlock = some b) : ∃ cur, w.heap[b]? = some (.cells cur e (0, 0)) := by
  rcases h.2 with ⟨rfl, _⟩ | ⟨g, cap, cur, rfl, _, hg, _⟩
  · cases hb
  · cases hb
    exact ⟨cur, hg⟩

theorem rep_set {w : World} {base tb mb : Nat} {T : Value} {sb bb cap : Nat} {cs : Array Value} {W : List Nat} {p : List (Nat × Nat)} {es es' : Array MapEntry} {clock clock' : Nat}
    (tx : w.heap[tb]? = some (.cells #[.pointer (some ⟨sb, 0, none⟩), .map (some mb), T] 194 (0, 0))) (seg : SegRep w sb bb cap cs W) (hm : w.heap[mb]? = some (.map es clock)) (he : Entries es' p)
    (turn : w.ownsRow base 22 1 T p.length (u64s (p.map (·.1)))) (nodup : (p.map (·.1)).Nodup) (dom : ∀ q ∈ p, (q.1 % 8 = 0 ∧ q.1 / 8 < W.length) ∧ q.1 < 18446744073709551616 ∧ q.2 < 18446744073709551616)
    (baseT : base ≤ tb) (baseM : base ≤ mb) (baseS : sb < base ∧ bb < base) : TxRep { w with heap := w.heap.setIfInBounds mb (.map es' clock') } base tb mb T sb bb cap cs ⟨W, p⟩ := by
  have hs := MapKept.heap_set (o' := .map es' clock') hm
  have hne : ∀ {k : Nat} {c : Array Value} {t : TypeId} {f : Nat × Nat}, w.heap[k]? = some (.cells c t f) → k ≠ mb := fun hk e => by
    subst e
    rw [hk] at hm
    cases hm
  exact ⟨(hs.2 _ (hne tx)).trans tx, seg.moved (hs.2 _ (hne seg.seg)) (hs.2 _ (hne seg.bytes)), ⟨es', clock', hs.1, he⟩,
    own_moved turn (fun b hb => by obtain ⟨cur, hc⟩ := own_cells turn hb; exact hs.2 _ (hne hc)), nodup, dom, baseT, baseM, baseS⟩

theorem pput_dom {p : List (Nat × Nat)} {D : Nat × Nat → Prop} {off v : Nat} (h : ∀ q ∈ p, D q) (hn : D (off, v)) : ∀ q ∈ pput p off v, D q := by
  intro q hq
  unfold pput at hq
  split at hq
  · obtain ⟨r, hr, rfl⟩ := List.mem_map.1 hq
    split
    · exact hn
    · exact h r hr
  · rcases List.mem_append.1 hq with hq | hq
    · exact h q hq
    · rw [List.mem_singleton.1 hq]; exact hn
theorem pput_nodup {p : List (Nat × Nat)} {off v : Nat} (h : (p.map (·.1)).Nodup) : ((pput p off v).map (·.1)).Nodup := by
  rw [pput_keys]
  split
  · exact h
  · next hs =>
    rw [plook_mem] at hs
    rw [List.nodup_append]
    refine ⟨h, by simp, ?_⟩
    intro a ha b hb e
    rw [List.mem_singleton] at hb
    subst hb
    exact hs (e ▸ ha)

set_option maxRecDepth 100000 in
theorem store_call {w : World} {base : Nat} {v : Value} {M : Nat → Prop} {σ : St} (h : TxAt w base v M σ) (off x : Nat) (ho : off < 18446744073709551616) (hx : x < 18446744073709551616) (hn : σ.p.length < 1000000) :
    Calls Try.prog 82 #[v, .int .u64 (off : Int), .int .u64 (x : Int)] w fun e w' => e = .returned (.tuple #[]) ∧ ∃ M', TxAt w' base v M' (σ.store off x) ∧ Only M w w' ∧ ∀ b, M' b → M b ∨ w.heap.size ≤ b := by
  obtain ⟨tb, mb, T, sb, bb, cap, cs, rfl, rfl, h⟩ := h
  have c0 : w.cell? ⟨tb, 0, none⟩ = some (.pointer (some ⟨sb, 0, none⟩)) := by rw [cell_of_heap h.tx]; rfl
  by_cases hc : off % 8 = 0 ∧ off / 8 < σ.W.length
  · have hst : σ.store off x = ⟨σ.W, pput σ.p off x⟩ := by unfold St.store; rw [if_pos hc]
    rw [hst]
    have hld := load_ok h.seg off hc.1 hc.2
    generalize σ.W.getD (off / 8) 0 = V at hld
    go_enter Try.func82, Try.ntmps82
    go_wp2_with fail
    refine hld.mono ?_
    rintro e w1 ⟨rfl, hg⟩
    have h1 := h.grow hg
    clear c0 h hld
    have c1 : w1.cell? ⟨tb, 1, none⟩ = some (.map (some mb)) := by rw [cell_of_heap h1.tx]; rfl
    have c2 : w1.cell? ⟨tb, 2, none⟩ = some T := by rw [cell_of_heap h1.tx]; rfl
    obtain ⟨es, clock, hm, he⟩ := h1.map
    cases hl : plook σ.p off with
    | some U =>
      have hlk := run_lookup_some (P := Try.prog) Try.underlying192 Try.underlying22 hm he hl
      obtain ⟨es', clock', hmu, he'⟩ := run_mapUpdate_word (P := Try.prog) Try.underlying192 Try.underlying22 hm he h1.nodup off x
      have HE := Lib.hid he'
      have HM := Lib.hid hm
      clear he' he hm
      go_wp2
      go_end0
      have hlen : (pput σ.p off x).map (·.1) = σ.p.map (·.1) := by rw [pput_keys, hl]; rfl
      have hlen2 : (pput σ.p off x).length = σ.p.length := by have := congrArg List.length hlen; simpa using this
      have hrep := rep_set (clock' := clock') h1.tx h1.seg HM.out HE.out (by rw [hlen, hlen2]; exact h1.turn) (by rw [hlen]; exact h1.nodup)
        (pput_dom h1.dom ⟨hc, ho, hx⟩) h1.baseT h1.baseM h1.baseS
      exact ⟨rfl, _, ⟨tb, mb, T, sb, bb, cap, cs, rfl, rfl, hrep⟩, (Only.of_below hg).heapSet (.inr (.inl rfl)) _, fun b hb => .inl hb⟩
    | none =>
      have hlk := run_lookup_none (P := Try.prog) Try.underlying192 Try.underlying22 zero22 hm he hl
      obtain ⟨i22, hi, hz, hs, hb⟩ := info_parts info22
      have hown := h1.turn
      have hbase : base ≤ w1.heap.size := Nat.le_trans h1.baseT (Nat.le_of_lt (lt_of_heap h1.tx))
      generalize hnl : σ.p.length = n at hown hn
      have HN := Lib.hid hnl
      have H1 := Lib.hid h1
      have HM := Lib.hid hm
      have HE := Lib.hid he
      clear hnl h1 hm he
      have HC := Lib.hid c2
      go_wp2_with (at_builtin; refine wpList_push2 w1 rfl (.tmp 38) (.tmp 40) 27 rfl base 22 i22 (.int .u64 0) 1 8 Try.underlying27 hi hz hs hb rfl (by decide) T n _ rfl hown #[.int .u64 (off : Int)] rfl rfl (by simp [Value.oneCell']) rfl (by unfold maxLen; omega) (by omega) (by omega) ?_)
      intro T' w2 hown' ho2 hwh
      have hT' : ∃ A c, T' = .slice A (n + 1) c := by
        obtain ⟨g, c, _, e, _⟩ := own_form hown' (by omega)
        exact ⟨_, c, e⟩
      obtain ⟨A', c', rfl⟩ := hT'
      have h1 := H1.out
      have hnT : ∀ {k : Nat} {c : Array Value} {t : TypeId} {f : Nat × Nat}, w1.heap[k]? = some (.cells c t f) → t ≠ 22 → ¬ T.ownBlock = some k := fun hk ht e => by
        obtain ⟨cur, hc⟩ := own_cells hown e
        rw [hk] at hc
        cases hc
        exact ht rfl
      have hmT : ¬ T.ownBlock = some mb := fun e => by
        obtain ⟨cur, hc⟩ := own_cells hown e
        rw [HM.out] at hc
        cases hc
      have tx2 := ho2.heap h1.tx (hnT h1.tx (by decide))
      have seg2 := h1.seg.moved (ho2.block _ h1.seg.lt (hnT h1.seg.seg (by decide))) (ho2.block _ h1.seg.lt' (hnT h1.seg.bytes (by decide)))
      have hm2 := ho2.heap HM.out hmT
      have d2 : w2.cell? ⟨tb, 2, none⟩ = some T := by rw [cell_of_heap tx2]; rfl
      have d2f := frozen_of_heap tx2 2
      have tx3 : (w2.setCell ⟨tb, 2, none⟩ (.slice A' (n + 1) c')).heap[tb]? = some (.cells #[.pointer (some ⟨sb, 0, none⟩), .map (some mb), .slice A' (n + 1) c'] 194 (0, 0)) := heap_setCell_row tx2 _
      have hother : ∀ k, k ≠ tb → (w2.setCell ⟨tb, 2, none⟩ (.slice A' (n + 1) c')).heap[k]? = w2.heap[k]? := fun k hk => Below.heap_setCell _ _ _ _ (fun e => hk e)
      have hnt : ∀ {k : Nat} {o : Obj}, w2.heap[k]? = some o → (∀ c f, o ≠ .cells c 194 f) → k ≠ tb := fun hk ho e => by
        subst e
        rw [tx2] at hk
        cases hk
        exact ho _ _ rfl
      have seg3 := seg2.moved (hother sb (hnt seg2.seg (by intro c f e; cases e))) (hother bb (hnt seg2.bytes (by intro c f e; cases e)))
      have hm3 := (hother mb (hnt hm2 (by intro c f e; cases e))).trans hm2
      have own3 := own_moved (w' := w2.setCell ⟨tb, 2, none⟩ (.slice A' (n + 1) c')) hown' (fun b hb => by
        obtain ⟨cur, hc⟩ := own_cells hown' hb
        exact hother b (hnt hc (by intro c f e; cases e)))
      have on3 : Only (Mut tb mb T) w (w2.setCell ⟨tb, 2, none⟩ (.slice A' (n + 1) c')) := ((Only.of_below hg).trans (ho2.mono (fun k _ hk => .inr (.inr hk)))).setCell (.inl rfl) _
      have hfresh : ∀ b, (Value.slice A' (n + 1) c').ownBlock = some b → T.ownBlock = some b ∨ w.heap.size ≤ b := by
        intro b hb
        rcases hwh b hb with h' | h'
        · exact .inl h'
        · exact .inr (Nat.le_trans hg.size h')
      have e1 : (w2.setCell ⟨tb, 2, none⟩ (.slice A' (n + 1) c')).cell? ⟨tb, 1, none⟩ = some (.map (some mb)) := by rw [cell_of_heap tx3]; rfl
      obtain ⟨es', clock', hmu, he'⟩ := run_mapUpdate_word (P := Try.prog) Try.underlying192 Try.underlying22 hm3 HE.out h1.nodup off x
      have HE' := Lib.hid he'
      have HM3 := Lib.hid hm3
      have HF := Lib.hid hfresh
      have DOM := Lib.hid h1.dom
      have ND := Lib.hid h1.nodup
      have BS := Lib.hid h1.baseS
      have BT := Lib.hid h1.baseT
      have BM := Lib.hid h1.baseM
      clear h1 H1 HC HM c1 c2 he' hm3 hother hnt hm2 seg2 hfresh hnT hmT hown hown' ho2 hwh
      go_wp2
      go_end0
      have hlen : (pput σ.p off x).map (·.1) = σ.p.map (·.1) ++ [off] := by rw [pput_keys, hl]; rfl
      have hlen2 : (pput σ.p off x).length = n + 1 := by have := congrArg List.length hlen; simpa [HN.out] using this
      have hrep := rep_set (clock' := clock') tx3 seg3 HM3.out HE'.out (by rw [hlen, hlen2, u64s_append]; exact own3) (pput_nodup ND.out)
        (pput_dom DOM.out ⟨hc, ho, hx⟩) BT.out BM.out BS.out
      refine ⟨rfl, _, ⟨tb, mb, _, sb, bb, cap, cs, rfl, rfl, hrep⟩, on3.heapSet (.inr (.inl rfl)) _, fun b hb => ?_⟩
      rcases hb with hb | hb | hb
      · exact .inl (.inl hb)
      · exact .inl (.inr (.inl hb))
      · rcases HF.out b hb with h' | h'
        · exact .inl (.inr (.inr h'))
        · exact .inr h'
  · have hst : σ.store off x = σ := by unfold St.store; rw [if_neg hc]
    rw [hst]
    have hld := load_bad h.seg off ho hc
    go_enter Try.func82, Try.ntmps82
    go_wp2_with fail
    refine hld.mono ?_
    rintro e w1 ⟨rfl, rfl⟩
    clear c0 hld
    go_wp2
    (try simp only [Exit.inBlock, Exit.then])
    refine bodyPost_ret (results_none rfl _ _ _) rfl ?_
    exact ⟨rfl, _, ⟨tb, mb, T, sb, bb, cap, cs, rfl, rfl, h⟩, Only.refl _ _, fun b hb => .inl hb⟩
end Go.Proofs.Ck

namespace Go.Proofs.Ck
open Go Go.RowKit

theorem new_call {w : World} {sb bb cap : Nat} {cs : Array Value} {W : List Nat} (h : SegRep w sb bb cap cs W) :
    Calls Try.prog 155 #[.pointer (some ⟨sb, 0, none⟩)] w fun e w' => ∃ v M, e = .returned v ∧ TxAt w' w.heap.size v M ⟨W, []⟩ ∧ Grow w w' := by
  have hmk : (Instr.makeMap 192 none).run Try.prog w = .ok (.map (some w.heap.size)) (w.alloc (.map #[] 0)) := rfl
  go_enter Try.func155, Try.ntmps155
  go_wp2
  go_ret
  have hg1 : Grow w (w.alloc (.map #[] 0)) := (Below.refl _ _).alloc (Nat.le_refl _) _
  have hg2 : Grow (w.alloc (.map #[] 0)) ((w.alloc (.map #[] 0)).alloc (.cells #[.pointer (some ⟨sb, 0, none⟩), .map (some w.heap.size), .slice none 0 0] 194)) := (Below.refl _ _).alloc (Nat.le_refl _) _
  have hm := World.alloc_heap_new w (.map #[] 0)
  have ht := World.alloc_heap_new (w.alloc (.map #[] 0)) (.cells #[.pointer (some ⟨sb, 0, none⟩), .map (some w.heap.size), .slice none 0 0] 194)
  have hsz : (w.alloc (.map #[] 0)).heap.size = w.heap.size + 1 := by simp
  rw [hsz] at ht
  refine ⟨_, _, rfl, ⟨w.heap.size + 1, w.heap.size, .slice none 0 0, sb, bb, cap, cs, rfl, rfl, ⟨ht, (h.grow hg1).grow hg2, ⟨#[], 0, hg2.heap hm, rfl⟩, World.ownsRow_nil _ _ _ _, by simp, by simp, by omega, Nat.le_refl _, h.lt, h.lt'⟩⟩, hg1.trans hg2⟩

theorem load_nil_tx (w : World) (off : Int) : Calls Try.prog 118 #[.pointer none, .int .u64 off] w fun e w' => e = .returned (.int .u64 0) ∧ w = w' := by
  go_enter Try.func118, Try.ntmps118
  go_wp2
  go_ret
  exact ⟨rfl, rfl⟩
end Go.Proofs.Ck

namespace Go.Proofs.Ck
open Go Go.RowKit
open Go.Proofs.Ytpakfelekphbmaa

theorem mix (x : Nat) (w : World) :
    Calls Try.prog 54 #[.int .u64 (x : Int)] w fun e w' => e = .returned (.int .u64 ((x * 11400714819323198485 % 18446744073709551616 : Nat) : Int)) ∧ w = w' := by
  go_enter Try.func54, Try.ntmps54
  go_wp2
  go_ret
  exact ⟨by rw [IntKind.wrap_u64]; simp, rfl⟩
/-- The sum of the bits, as the library reckons it. -/
def y1 (x : Nat) : Nat := (x / 2 &&& 6148914691236517205) + (x &&& 6148914691236517205)
def y2 (x : Nat) : Nat := (x / 4 &&& 3689348814741910323) + (x &&& 3689348814741910323)
end Go.Proofs.Ck

namespace Go.Proofs.Ck
open Go Go.RowKit

/-- The checksum of a size. -/
def ckSum (size : Nat) : Nat := (7161130718081542961 ^^^ size) * 11400714819323198485 % 18446744073709551616
theorem ckSum_lt (size : Nat) : ckSum size < 18446744073709551616 := Nat.mod_lt _ (by omega)
def fits (size all : Nat) : Prop := size % 16 = 0 ∧ 3824 ≤ size ∧ size ≤ all
/-- The words of a segment, formatted. -/
def fmtW (n size : Nat) : List Nat :=
  (((((((List.replicate n 0).set 0 7161130718081542961).set 1 1).set 2 size).set 4 3776).set 5 (ckSum size)).set 472 (size - 3776)).set (size / 8 - 1) (size - 3776)
theorem fmtW_length (n size : Nat) : (fmtW n size).length = n := by simp [fmtW]

theorem sum_call (size : Nat) (hs : size < 18446744073709551616) (w : World) : Calls Try.prog 185 #[.int .u64 (size : Int)] w fun e w' => e = .returned (.int .u64 ((ckSum size : Nat) : Int)) ∧ w = w' := by
  have f : bits .xor .u64 7161130718081542961 (size : Int) = ((7161130718081542961 ^^^ size : Nat) : Int) := bits_xor_u64_nat 7161130718081542961 size (by omega) hs
  have m := mix (7161130718081542961 ^^^ size) w
  unfold ckSum
  generalize (7161130718081542961 ^^^ size) * 11400714819323198485 % 18446744073709551616 = r at *
  generalize 7161130718081542961 ^^^ size = x at *
  go_enter Try.func185, Try.ntmps185
  go_wp2_with fail
  refine m.mono ?_
  rintro e w' ⟨rfl, rfl⟩
  go_wp2
  go_ret
  exact ⟨rfl, rfl⟩

theorem fits_ok (size all : Nat) (h : fits size all) (w : World) : Calls Try.prog 183 #[.int .u64 (size : Int), .int .u64 (all : Int)] w fun e w' => e = .returned (.bool true) ∧ w = w' := by
  obtain ⟨h1, h2, h3⟩ := h
  have t1 : ((size : Int) % 16 == 0) = true := by rw [beq_iff_eq]; omega
  have t2 : decide ((3824 : Int) ≤ size) = true := decide_eq_true (by omega)
  have t3 : decide ((size : Int) ≤ all) = true := decide_eq_true (by omega)
  go_enter Try.func183, Try.ntmps183
  go_wp2
  go_ret
  exact ⟨rfl, rfl⟩

theorem put_call {w : World} {sb bb cap bx : Nat} {cs : Array Value} {W : List Nat} (h : SegRep w sb bb cap cs W) (hb : w.heap[bx]? = some (.cells #[.pointer (some ⟨sb, 0, none⟩)] 26 (0, 0))) (off v : Nat) (hm : off % 8 = 0) (hl : off / 8 < W.length) (hv : v < 18446744073709551616) :
    Calls Try.prog 184 #[.int .u64 (off : Int), .int .u64 (v : Int), .pointer (some ⟨bx, 0, none⟩)] w fun e w' => e = .returned (.tuple #[]) ∧ (∃ cs', SegRep w' sb bb cap cs' (W.set (off / 8) v)) ∧ Only (· = bb) w w' := by
  have c0 : w.cell? ⟨bx, 0, none⟩ = some (.pointer (some ⟨sb, 0, none⟩)) := by rw [cell_of_heap hb]; rfl
  have hs := store_ok h off v hm hl hv
  go_enter Try.func184, Try.ntmps184
  go_wp2_with fail
  refine hs.mono ?_
  rintro e w' ⟨rfl, h1, h2⟩
  go_wp2
  go_end0
  exact ⟨rfl, h1, h2⟩

set_option maxRecDepth 100000 in
set_option maxHeartbeats 2000000 in
theorem format_ok {w : World} {sb bb cap : Nat} {cs : Array Value} {W : List Nat} (h : SegRep w sb bb cap cs W) (size : Nat) (hf : fits size (8 * W.length)) (h4 : size < 18446744073709551616) :
    Calls Try.prog 153 #[.pointer (some ⟨sb, 0, none⟩), .int .u64 (size : Int)] w fun e w' => e = .returned (.int .i64 0) ∧ (∃ cs', SegRep w' sb bb cap cs' (fmtW W.length size)) ∧ Only (· = bb) w w' := by
  have hsm := h.small
  have hsb := h.lt
  have hbb := h.lt'
  have hg0 : Grow w (w.alloc (.cells #[.pointer (some ⟨sb, 0, none⟩)] 26)) := (Below.refl _ _).alloc (Nat.le_refl _) _
  have hB : (w.alloc (.cells #[.pointer (some ⟨sb, 0, none⟩)] 26)).heap[w.heap.size]? = some (.cells #[.pointer (some ⟨sb, 0, none⟩)] 26 (0, 0)) := World.alloc_heap_new w _
  have h0 := h.grow hg0
  have hfc := fits_ok size (8 * W.length) hf
  obtain ⟨hf1, hf2, hf3⟩ := hf
  go_enter Try.func153, Try.ntmps153
  go_wp2_with fail
  generalize w.alloc (.cells #[.pointer (some ⟨sb, 0, none⟩)] 26) = w0 at hg0 hB h0 ⊢
  refine (size_any (.inr ⟨_, _, _, _, rfl, h0⟩)).mono ?_
  rintro e w' ⟨rfl, rfl⟩
  go_wp2_with fail
  refine (hfc w0).mono ?_
  rintro e w' ⟨rfl, rfl⟩
  clear hfc
  have c0 : w0.cell? ⟨w.heap.size, 0, none⟩ = some (.pointer (some ⟨sb, 0, none⟩)) := by rw [cell_of_heap hB]; rfl
  go_wp2_with fail
  go_loopw [5] (fun x wr => ∃ (k : Nat) (W0 : List Nat) (cs0 : Array Value), k ≤ W.length ∧ x = .int .u64 (8 * (k : Int)) ∧ Only (· = bb) w wr ∧ wr.heap[w.heap.size]? = some (.cells #[.pointer (some ⟨sb, 0, none⟩)] 26 (0, 0)) ∧
      SegRep wr sb bb cap cs0 W0 ∧ W0.length = W.length ∧ ∀ i, i < k → W0[i]? = some 0)
    (fun x _ => 8 * W.length - (intOf x).toNat)
  case atStart => exact ⟨0, W, cs, by omega, rfl, .of_below hg0, hB, h0, rfl, fun i hi => by omega⟩
  case round =>
    obtain ⟨k, W0, cs0, hk, rfl, ho, hb, hs, hn, hz⟩ := hrel
    clear hg0 hB h0 c0
    have cb : wr.cell? ⟨w.heap.size, 0, none⟩ = some (.pointer (some ⟨sb, 0, none⟩)) := by rw [cell_of_heap hb]; rfl
    have HZ := Lib.hid hz
    clear hz
    have hsz := size_any (.inr ⟨_, _, _, _, rfl, hs⟩)
    rw [hn, show ((8 * W.length : Nat) : Int) = 8 * (W.length : Int) from by omega] at hsz
    by_cases hlt : k < W.length
    · have g0 : decide (8 * (k : Int) < 8 * W.length) = true := decide_eq_true (by omega)
      go_wp2_with fail
      refine hsz.mono ?_
      rintro e w' ⟨rfl, rfl⟩
      have hst := store_ok hs (8 * k) 0 (by omega) (by omega) (by omega)
      rw [show ((8 * k : Nat) : Int) = 8 * (k : Int) from by omega, show 8 * k / 8 = k from by omega] at hst
      go_wp2_with fail
      refine hst.mono ?_
      rintro e wn ⟨rfl, ⟨csn, hsn⟩, hon⟩
      have hbn := hon.heap hb (by omega)
      have hon' := ho.trans hon
      clear hsz hst hs hb ho cb hon
      go_wp2
      go_roundw
      case rel =>
        refine ⟨k + 1, _, csn, by omega, by go_num, hon', hbn, hsn, by rw [List.length_set, hn], fun i hi => ?_⟩
        by_cases hik : i = k
        · subst hik
          rw [List.getElem?_set_self (by omega)]
        · rw [List.getElem?_set_ne (by omega)]
          exact HZ.out i (by omega)
      case measure => simp [intOf]; omega
    · obtain rfl : k = W.length := by omega
      have hW0 : W0 = List.replicate W.length 0 := by
        apply List.ext_getElem?
        intro i
        by_cases hi : i < W.length
        · rw [HZ.out i hi, List.getElem?_replicate, if_pos hi]
        · rw [List.getElem?_eq_none (by omega), List.getElem?_eq_none (by simp; omega)]
      subst hW0
      have g0 : decide (8 * (W.length : Int) < 8 * W.length) = false := decide_eq_false (by omega)
      go_wp2_with fail
      refine hsz.mono ?_
      rintro e w' ⟨rfl, rfl⟩
      have hs1 := hs
      have hb1 := hb
      have ho1 := ho
      clear hs hb ho HZ hsz hk hlt
      go_wp2_with fail
      refine (put_call hs1 hb1 0 7161130718081542961 (by omega) (by rw [hn]; omega) (by omega)).mono ?_
      rintro e w2 ⟨rfl, ⟨cs2, hs2⟩, hq2⟩
      have hb2 := hq2.heap hb1 (by omega)
      have ho2 := ho1.trans hq2
      clear hs1 hb1 ho1 hq2
      go_wp2_with fail
      refine (put_call hs2 hb2 8 1 (by omega) (by simp only [List.length_set, hn]; omega) (by omega)).mono ?_
      rintro e w3 ⟨rfl, ⟨cs3, hs3⟩, hq3⟩
      have hb3 := hq3.heap hb2 (by omega)
      have ho3 := ho2.trans hq3
      clear hs2 hb2 ho2 hq3
      go_wp2_with fail
      refine (put_call hs3 hb3 16 size (by omega) (by simp only [List.length_set, hn]; omega) h4).mono ?_
      rintro e w4 ⟨rfl, ⟨cs4, hs4⟩, hq4⟩
      have hb4 := hq4.heap hb3 (by omega)
      have ho4 := ho3.trans hq4
      clear hs3 hb3 ho3 hq4
      go_wp2_with fail
      refine (put_call hs4 hb4 32 3776 (by omega) (by simp only [List.length_set, hn]; omega) (by omega)).mono ?_
      rintro e w5 ⟨rfl, ⟨cs5, hs5⟩, hq5⟩
      have hb5 := hq5.heap hb4 (by omega)
      have ho5 := ho4.trans hq5
      clear hs4 hb4 ho4 hq5
      go_wp2_with fail
      refine (sum_call size h4 w5).mono ?_
      rintro e w' ⟨rfl, rfl⟩
      go_wp2_with fail
      refine (put_call hs5 hb5 40 (ckSum size) (by omega) (by simp only [List.length_set, hn]; omega) (ckSum_lt size)).mono ?_
      rintro e w6 ⟨rfl, ⟨cs6, hs6⟩, hq6⟩
      have hb6 := hq6.heap hb5 (by omega)
      have ho6 := ho5.trans hq6
      clear hs5 hb5 ho5 hq6
      have hp6 := put_call hs6 hb6 3776 (size - 3776) (by omega) (by simp only [List.length_set, hn]; omega) (by omega)
      rw [show ((size - 3776 : Nat) : Int) = (size : Int) - 3776 from by omega] at hp6
      go_wp2_with fail
      refine hp6.mono ?_
      rintro e w7 ⟨rfl, ⟨cs7, hs7⟩, hq7⟩
      have hb7 := hq7.heap hb6 (by omega)
      have ho7 := ho6.trans hq7
      clear hs6 hb6 ho6 hq7 hp6
      have hp7 := put_call hs7 hb7 (size - 8) (size - 3776) (by omega) (by simp only [List.length_set, hn]; omega) (by omega)
      rw [show ((size - 3776 : Nat) : Int) = (size : Int) - 3776 from by omega, show ((size - 8 : Nat) : Int) = (size : Int) - 8 from by omega] at hp7
      go_wp2_with fail
      refine hp7.mono ?_
      rintro e w8 ⟨rfl, ⟨cs8, hs8⟩, hq8⟩
      have ho8 := ho7.trans hq8
      clear hs7 hb7 ho7 hq8 hp7
      have HS := Lib.hid hs8
      clear hs8
      go_wp2
      go_ret
      refine ⟨rfl, ⟨cs8, ?_⟩, ho8⟩
      have hs8 := HS.out
      rw [show (size - 8) / 8 = size / 8 - 1 from by omega] at hs8
      exact hs8
end Go.Proofs.Ck

namespace Go.Proofs.Ck
open Go Go.RowKit
open Go.Proofs.Ytpakfelekphbmaa

theorem pow_lt (k : Nat) (h : k < 64) : 2 ^ k < 18446744073709551616 := by
  have : 2 ^ k < 2 ^ 64 := Nat.pow_lt_pow_right (by omega) h
  omega
end Go.Proofs.Ck

namespace Go.Proofs.Ck
open Go Go.RowKit
open Go.Proofs.Ytpakfelekphbmaa

def need (n : Nat) : Nat := (max n 8 + 55) / 16 * 16

end Go.Proofs.Ck

namespace Go.Proofs.Ck
open Go Go.RowKit
open Go.Proofs.Ytpakfelekphbmaa

/-- A name's number. -/
def hsum (l : List UInt8) : Nat := l.foldl (fun h b => (h ^^^ b.toNat) * 1099511628211 % 18446744073709551616) 14695981039346656037
theorem rmix (x : Nat) (w : World) :
    Calls Try.prog 61 #[.int .u64 (x : Int)] w fun e w' => e = .returned (.int .u64 ((x * 11400714819323198485 % 18446744073709551616 : Nat) : Int)) ∧ w = w' := by
  go_enter Try.func61, Try.ntmps61
  go_wp2
  go_ret
  exact ⟨by rw [IntKind.wrap_u64]; simp, rfl⟩
theorem radd_ok (x y : Nat) (h : x + y < 18446744073709551616) (w : World) :
    Calls Try.prog 69 #[.int .u64 (x : Int), .int .u64 (y : Int)] w fun e w' => e = .returned (.tuple #[.int .u64 ((x + y : Nat) : Int), .bool true]) ∧ w = w' := by
  have t : decide (18446744073709551615 - (x : Int) < y) = false := decide_eq_false (by omega)
  go_enter Try.func69, Try.ntmps69
  go_wp2
  go_ret2
  exact ⟨rfl, rfl⟩
end Go.Proofs.Ck

namespace Go.Proofs.Ck
open Go Go.RowKit

theorem rsum_call (size : Nat) (hs : size < 18446744073709551616) (w : World) : Calls Try.prog 187 #[.int .u64 (size : Int)] w fun e w' => e = .returned (.int .u64 ((ckSum size : Nat) : Int)) ∧ w = w' := by
  have f : bits .xor .u64 7161130718081542961 (size : Int) = ((7161130718081542961 ^^^ size : Nat) : Int) := bits_xor_u64_nat 7161130718081542961 size (by omega) hs
  have m := rmix (7161130718081542961 ^^^ size) w
  unfold ckSum
  generalize (7161130718081542961 ^^^ size) * 11400714819323198485 % 18446744073709551616 = r at *
  generalize 7161130718081542961 ^^^ size = x at *
  go_enter Try.func187, Try.ntmps187
  go_wp2_with fail
  refine m.mono ?_
  rintro e w' ⟨rfl, rfl⟩
  go_wp2
  go_ret
  exact ⟨rfl, rfl⟩
theorem rfits_ok (size all : Nat) (h : fits size all) (w : World) : Calls Try.prog 186 #[.int .u64 (size : Int), .int .u64 (all : Int)] w fun e w' => e = .returned (.bool true) ∧ w = w' := by
  obtain ⟨h1, h2, h3⟩ := h
  have t1 : ((size : Int) % 16 == 0) = true := by rw [beq_iff_eq]; omega
  have t2 : decide ((3824 : Int) ≤ size) = true := decide_eq_true (by omega)
  have t3 : decide ((size : Int) ≤ all) = true := decide_eq_true (by omega)
  go_enter Try.func186, Try.ntmps186
  go_wp2
  go_ret
  exact ⟨rfl, rfl⟩

theorem cells_set {g : Nat} {w : World} {W : List Nat} (h : w.heap[g]? = some (.cells (u64s W).toArray 22 (0, 0))) (i x : Nat) :
    (w.setCell ⟨g, i, none⟩ (.int .u64 (x : Int))).heap[g]? = some (.cells (u64s (W.set i x)).toArray 22 (0, 0)) := by
  rw [heap_setCell_row h]
  congr 2
  rw [List.setIfInBounds_toArray]
  congr 1
  unfold u64s
  rw [List.map_set]
theorem cells_get {g : Nat} {w : World} {W : List Nat} (h : w.heap[g]? = some (.cells (u64s W).toArray 22 (0, 0))) {i : Nat} (hi : i < W.length) : ∃ x : Nat, w.cell? ⟨g, i, none⟩ = some (.int .u64 (x : Int)) := by
  refine ⟨W.getD i 0, ?_⟩
  rw [cell_of_heap h]
  simp [u64s, List.getD_eq_getElem?_getD, hi]

theorem own_array {w : World} {base g n : Nat} {xs : List Value} (h : w.ownsRow base 22 1 (.slice (some ⟨g, 0, none⟩) n n) n xs) : base ≤ g ∧ w.heap[g]? = some (.cells xs.toArray 22 (0, 0)) := by
  obtain ⟨cur, hge, hh, _, _, hz, hcur⟩ := own_some h
  have hl := h.1
  refine ⟨hge, ?_⟩
  rw [hh]
  congr 2
  apply Array.ext_getElem?
  intro i
  by_cases hi : i < xs.length
  · rw [hcur i _ (List.getElem?_eq_getElem hi)]
    simp [hi]
  · rw [Array.getElem?_eq_none (by omega), Array.getElem?_eq_none (by simp; omega)]

set_option maxRecDepth 100000 in
set_option maxHeartbeats 2000000 in
theorem rformat_ok (w : World) (size : Nat) (hf : fits size 4800) :
    Calls Try.prog 154 #[.int .u64 4800, .int .u64 (size : Int)] w fun e w' => ∃ g, e = .returned (.tuple #[.slice (some ⟨g, 0, none⟩) 600 600, .int .i64 0]) ∧ w.heap.size ≤ g ∧ w'.heap[g]? = some (.cells (u64s (fmtW 600 size)).toArray 22 (0, 0)) ∧ Grow w w' := by
  have hfc := rfits_ok size 4800 hf
  obtain ⟨hf1, hf2, hf3⟩ := hf
  go_enter Try.func154, Try.ntmps154
  go_wp2_with fail
  refine (rnew_ok 4800 w (by omega) (by omega) (by omega)).mono ?_
  rintro e w1 ⟨g, ⟨rfl, hown⟩, hg⟩
  have hx := own_array hown
  clear hown
  obtain ⟨hge, hh⟩ := hx
  rw [show (4800 / 8 : Nat) = 600 from rfl] at hh ⊢
  have hl : (List.replicate 600 0).length = 600 := List.length_replicate ..
  generalize hW0 : List.replicate 600 0 = W0 at hh hl
  have HW := Lib.hid hW0
  clear hW0
  go_wp2_with fail
  refine (hfc w1).mono ?_
  rintro e w' ⟨rfl, rfl⟩
  clear hfc
  obtain ⟨x0, h0⟩ := cells_get hh (i := 0) (by omega)
  obtain ⟨x1, h1⟩ := cells_get hh (i := 1) (by omega)
  obtain ⟨x2, h2⟩ := cells_get hh (i := 2) (by omega)
  obtain ⟨x4, h4⟩ := cells_get hh (i := 4) (by omega)
  have f0 := frozen_of_heap hh 0
  have f1 := frozen_of_heap hh 1
  have f2 := frozen_of_heap hh 2
  have f4 := frozen_of_heap hh 4
  have HH := Lib.hid (cells_set (cells_set (cells_set (cells_set hh 0 7161130718081542961) 1 1) 2 size) 4 3776)
  have HG := Lib.hid ((((hg.setCell (p := ⟨g, 0, none⟩) hge (.int .u64 ((7161130718081542961 : Nat) : Int))).setCell (p := ⟨g, 1, none⟩) hge (.int .u64 ((1 : Nat) : Int))).setCell (p := ⟨g, 2, none⟩) hge (.int .u64 (size : Int))).setCell (p := ⟨g, 4, none⟩) hge (.int .u64 ((3776 : Nat) : Int)))
  go_wp2_with fail
  generalize hw2 : ((((w1.setCell ⟨g, 0, none⟩ (.int .u64 7161130718081542961)).setCell ⟨g, 1, none⟩ (.int .u64 1)).setCell ⟨g, 2, none⟩ (.int .u64 (size : Int))).setCell ⟨g, 4, none⟩ (.int .u64 3776)) = w2
  have hh2 : w2.heap[g]? = some (.cells (u64s ((((W0.set 0 7161130718081542961).set 1 1).set 2 size).set 4 3776)).toArray 22 (0, 0)) := by rw [← hw2]; exact HH.out
  have hg2 : Grow w w2 := by rw [← hw2]; exact HG.out
  clear hw2 HH HG h0 h1 h2 h4 f0 f1 f2 f4 hh hg
  have hl2 : ((((W0.set 0 7161130718081542961).set 1 1).set 2 size).set 4 3776).length = 600 := by simp only [List.length_set]; exact hl
  generalize hW1 : (((W0.set 0 7161130718081542961).set 1 1).set 2 size).set 4 3776 = W1 at hh2 hl2
  have HW1 := Lib.hid hW1
  clear hW1
  refine (rsum_call size (by omega) w2).mono ?_
  rintro e w' ⟨rfl, rfl⟩
  have hq : size / 8 - 1 < 600 := by omega
  have hq5 : 5 < size / 8 - 1 := by omega
  have hq472 : 472 < size / 8 - 1 := by omega
  have eq : (size : Int) / 8 - 1 = ((size / 8 - 1 : Nat) : Int) := by omega
  have ez : (size : Int) - 3776 = ((size - 3776 : Nat) : Int) := by omega
  obtain ⟨x5, h5⟩ := cells_get hh2 (i := 5) (by omega)
  obtain ⟨x6, h6⟩ := cells_get hh2 (i := 472) (by omega)
  obtain ⟨x7, h7⟩ := cells_get hh2 (i := size / 8 - 1) (by omega)
  have f5 := frozen_of_heap hh2 5
  have f6 := frozen_of_heap hh2 472
  have f7 := frozen_of_heap hh2 (size / 8 - 1)
  have HH := Lib.hid (cells_set (cells_set (cells_set hh2 5 (ckSum size)) 472 (size - 3776)) (size / 8 - 1) (size - 3776))
  have HG := Lib.hid (((hg2.setCell (p := ⟨g, 5, none⟩) hge (.int .u64 ((ckSum size : Nat) : Int))).setCell (p := ⟨g, 472, none⟩) hge (.int .u64 ((size - 3776 : Nat) : Int))).setCell (p := ⟨g, size / 8 - 1, none⟩) hge (.int .u64 ((size - 3776 : Nat) : Int)))
  have HF : Hid (((W1.set 5 (ckSum size)).set 472 (size - 3776)).set (size / 8 - 1) (size - 3776) = fmtW 600 size) := by
    unfold fmtW
    rw [HW.out, HW1.out]
    exact Lib.hid rfl
  clear hh2 hg2
  generalize ckSum size = S at *
  generalize size / 8 - 1 = q at *
  have hix : (0 : Int) ≤ (q : Int) ∧ (q : Int) < 600 := by omega
  go_wp2
  go_ret2
  have hh := HH.out
  rw [HF.out] at hh
  have hg := HG.out
  exact ⟨g, rfl, hge, hh, hg⟩
end Go.Proofs.Ck

namespace Go.Proofs.Ck
open Go Go.RowKit

theorem rold {S : Nat → Prop} {w : World} {A B : Option Addr} {c d n : Nat} {σ : St} (h : Nums S w A σ.W) (off : Nat) (ho : off < 18446744073709551616) (hn : σ.W.length ≤ 17592186044416) :
    Calls Try.prog 190 #[.agg #[.slice A σ.W.length c, .slice B n d], .int .u64 (off : Int)] w fun e w' => e = .returned (.int .u64 ((σ.old off : Nat) : Int)) ∧ Grow w w' := by
  have hg0 : Grow w (w.alloc (.cells #[.slice A σ.W.length c, .slice B n d] 67)) := (Below.refl _ _).alloc (Nat.le_refl _) _
  have h1 := h.grow hg0
  unfold St.old
  by_cases hc : off % 8 = 0 ∧ off / 8 < σ.W.length
  · rw [if_pos hc]
    have hl := rload_ok (c := c) h1 off hc.1 hc.2 (by omega)
    generalize σ.W.getD (off / 8) 0 = V at *
    go_enter Try.func190, Try.ntmps190
    go_wp2_with fail
    refine hl.mono ?_
    rintro e w' ⟨rfl, rfl⟩
    clear hl h1
    go_wp2
    go_ret
    exact ⟨rfl, hg0⟩
  · rw [if_neg hc]
    have hl := rload_bad A σ.W.length c off (w.alloc (.cells #[.slice A σ.W.length c, .slice B n d] 67)) ho hc (by omega)
    go_enter Try.func190, Try.ntmps190
    go_wp2_with fail
    refine hl.mono ?_
    rintro e w' ⟨rfl, rfl⟩
    clear hl h1
    go_wp2
    go_ret
    exact ⟨rfl, hg0⟩

theorem plook_at {p : List (Nat × Nat)} {off i : Nat} (hi : i < p.length) (he : (p.getD i (0, 0)).1 = off) (hb : ∀ j, j < i → (p.getD j (0, 0)).1 ≠ off) : plook p off = some (p.getD i (0, 0)).2 := by
  induction p generalizing i with
  | nil => simp at hi
  | cons q p ih =>
    rw [plook_cons]
    cases i with
    | zero => simp at he; rw [if_pos he]; rfl
    | succ i =>
      have := hb 0 (by omega)
      simp at this
      rw [if_neg this]
      exact ih (by simpa using hi) (by simpa using he) (fun j hj => by simpa using hb (j + 1) (by omega))
theorem plook_out {p : List (Nat × Nat)} {off : Nat} (hb : ∀ j, j < p.length → (p.getD j (0, 0)).1 ≠ off) : plook p off = none := by
  induction p with
  | nil => rfl
  | cons q p ih =>
    have := hb 0 (by simp)
    simp at this
    rw [plook_cons, if_neg this]
    exact ih (fun j hj => by simpa using hb (j + 1) (by simpa using hj))

set_option maxRecDepth 100000 in
set_option maxHeartbeats 1000000 in
theorem rat {S : Nat → Prop} {w : World} {A B : Option Addr} {m c d : Nat} {p : List (Nat × Nat)} (h : Puts S w B p) (off : Nat) (hn : p.length ≤ 17592186044416) :
    Calls Try.prog 189 #[.agg #[.slice A m c, .slice B p.length d], .int .u64 (off : Int)] w fun e w' =>
      ((∃ i : Nat, e = .returned (.int .i64 (i : Int)) ∧ i < p.length ∧ (p.getD i (0, 0)).1 = off ∧ plook p off = some (p.getD i (0, 0)).2) ∨ (e = .returned (.int .i64 (-1)) ∧ plook p off = none)) ∧ Grow w w' := by
  have hg0 : Grow w (w.alloc (.cells #[.slice A m c, .slice B p.length d] 67)) := (Below.refl _ _).alloc (Nat.le_refl _) _
  have hB : (w.alloc (.cells #[.slice A m c, .slice B p.length d] 67)).heap[w.heap.size]? = some (.cells #[.slice A m c, .slice B p.length d] 67 (0, 0)) := World.alloc_heap_new w _
  have h1 := h.grow hg0
  have b1 : (w.alloc (.cells #[.slice A m c, .slice B p.length d] 67)).cell? ⟨w.heap.size, 1, none⟩ = some (.slice B p.length d) := by rw [cell_of_heap hB]; rfl
  go_enter Try.func189, Try.ntmps189
  go_wp2_with fail
  generalize w.alloc (.cells #[.slice A m c, .slice B p.length d] 67) = w1 at hg0 h1 b1 ⊢
  clear h hB
  go_loop [5] (fun x => ∃ k : Nat, k ≤ p.length ∧ x = .int .i64 (k : Int) ∧ Hid (∀ j, j < k → (p.getD j (0, 0)).1 ≠ off)) (fun x => p.length - (intOf x).toNat)
  case atStart => exact ⟨0, Nat.zero_le _, rfl, Lib.hid (fun j hj => by omega)⟩
  case round =>
    obtain ⟨k, hk, rfl, hj⟩ := hrel
    by_cases hlt : k < p.length
    · obtain ⟨b, o, rfl, _, hc⟩ := h1.pos (by omega) (by omega)
      have hx := hc _ _ (puts_get hlt).1
      clear hc h1
      have g0 : decide ((k : Int) < p.length) = true := decide_eq_true (by omega)
      by_cases he : (p.getD k (0, 0)).1 = off
      · have HR := Lib.hid (plook_at hlt he hj.out)
        have HE := Lib.hid he
        rw [he] at hx
        clear he
        go_wp2
        go_ret
        exact ⟨.inl ⟨k, rfl, hlt, HE.out, HR.out⟩, hg0⟩
      · have t1 : (((p.getD k (0, 0)).1 : Int) == off) = false := by rw [beq_eq_false_iff_ne]; omega
        have HN := Lib.hid he
        clear he
        generalize hV : (p.getD k (0, 0)).1 = V at hx t1
        have HV := Lib.hid hV
        clear hV
        go_wp2
        go_round
        case rel =>
          refine ⟨k + 1, by omega, by go_num, Lib.hid fun j hj' => ?_⟩
          by_cases hjk : j = k
          · subst hjk; exact HN.out
          · exact hj.out j (by omega)
        case measure => simp [intOf]; omega
    · obtain rfl : k = p.length := by omega
      have HR := Lib.hid (plook_out hj.out)
      have g0 : decide ((p.length : Int) < p.length) = false := decide_eq_false (by omega)
      go_wp2
      go_ret
      exact ⟨.inr ⟨rfl, HR.out⟩, hg0⟩

set_option maxRecDepth 100000 in
theorem rload {S S' : Nat → Prop} {w : World} {A B : Option Addr} {c d : Nat} {σ : St} (h : Nums S w A σ.W) (hp : Puts S' w B σ.p) (off : Nat) (ho : off < 18446744073709551616) (hn : σ.W.length ≤ 17592186044416) (hpn : σ.p.length ≤ 17592186044416) :
    Calls Try.prog 157 #[.agg #[.slice A σ.W.length c, .slice B σ.p.length d], .int .u64 (off : Int)] w fun e w' => e = .returned (.int .u64 ((σ.load off : Nat) : Int)) ∧ Grow w w' := by
  have hg0 : Grow w (w.alloc (.cells #[.slice A σ.W.length c, .slice B σ.p.length d] 67)) := (Below.refl _ _).alloc (Nat.le_refl _) _
  have hB : (w.alloc (.cells #[.slice A σ.W.length c, .slice B σ.p.length d] 67)).heap[w.heap.size]? = some (.cells #[.slice A σ.W.length c, .slice B σ.p.length d] 67 (0, 0)) := World.alloc_heap_new w _
  have h1 := h.grow hg0
  have hp1 := hp.grow hg0
  have HL : Hid (σ.load off = (plook σ.p off).getD (σ.old off)) := Lib.hid rfl
  clear h hp
  generalize hLd : σ.load off = L at HL
  clear hLd
  have a0 : (w.alloc (.cells #[.slice A σ.W.length c, .slice B σ.p.length d] 67)).cell? ⟨w.heap.size, 0, none⟩ = some (.slice A σ.W.length c) := by rw [cell_of_heap hB]; rfl
  have a1 : (w.alloc (.cells #[.slice A σ.W.length c, .slice B σ.p.length d] 67)).cell? ⟨w.heap.size, 1, none⟩ = some (.slice B σ.p.length d) := by rw [cell_of_heap hB]; rfl
  go_enter Try.func157, Try.ntmps157
  go_wp2_with fail
  generalize w.alloc (.cells #[.slice A σ.W.length c, .slice B σ.p.length d] 67) = w1 at hg0 hB h1 hp1 a0 a1 ⊢
  refine (rat (m := σ.W.length) (A := A) (c := c) (d := d) hp1 off hpn).mono ?_
  rintro e w2 ⟨hr, hg⟩
  have h2 := h1.grow hg
  have hp2 := hp1.grow hg
  have hB2 := hg.heap hB
  have hg2 := hg0.trans hg
  clear h1 hp1 hB a0 a1 hg0 hg
  have a0 : w2.cell? ⟨w.heap.size, 0, none⟩ = some (.slice A σ.W.length c) := by rw [cell_of_heap hB2]; rfl
  have a1 : w2.cell? ⟨w.heap.size, 1, none⟩ = some (.slice B σ.p.length d) := by rw [cell_of_heap hB2]; rfl
  rcases hr with ⟨i, rfl, hi, -, hl⟩ | ⟨rfl, hl⟩
  · obtain ⟨b, o, rfl, _, hc⟩ := hp2.pos (by omega) (by omega)
    have hx := hc _ _ (puts_get hi).2
    have hL := HL.out
    rw [hl, Option.getD_some] at hL
    rw [← hL, ← Nat.add_assoc] at hx
    clear hL HL hc hp2 h2 hl hB2 a0
    have g0 : decide ((0 : Int) ≤ i) = true := decide_eq_true (by omega)
    go_wp2
    go_ret
    exact ⟨rfl, hg2⟩
  · have hL := HL.out
    rw [hl, Option.getD_none] at hL
    have ho := rold (B := B) (c := c) (d := d) (n := σ.p.length) h2 off ho hn
    rw [← hL] at ho
    clear hL HL hl hp2 h2 hB2
    go_wp2_with fail
    refine ho.mono ?_
    rintro e w3 ⟨rfl, hg3⟩
    go_wp2
    go_ret
    exact ⟨rfl, hg2.trans hg3⟩
end Go.Proofs.Ck

namespace Go.Proofs.Ck
open Go Go.RowKit

theorem info73 : (Try.prog.info? 73).map (fun i => (i.zero, i.size, i.bytes)) = some (some (.agg #[.int .u64 0, .int .u64 0]), 2, 16) := by kernel_rfl
theorem info67 : (Try.prog.info? 67).map (·.size) = some 2 := by kernel_rfl

/-- A pair of slices comes back, out of a cell. -/
theorem ret_tx {fn : Func} {R : Ending → World → Prop} {tmps : Array Value} {p : Tmp} {W : World} {g : Nat} {cs : Array Value} {fr : Nat × Nat} (hf : fn.results = #[.cell p 67])
    (hp : tmps.getD p undef = .pointer (some ⟨g, 0, none⟩)) (hg : W.heap[g]? = some (.cells cs 67 fr)) (h2 : cs.size = 2) (hR : R (.returned (.agg cs)) W) :
    bodyPost Try.prog fn R .ret ⟨tmps, []⟩ W :=
  bodyPost_ret (results_cell_row hf tmps W g 67 cs fr _ hp hg Try.underlying67 rfl (info67.trans (by rw [h2]))) rfl hR

theorem pput_set {p : List (Nat × Nat)} (hd : (p.map (·.1)).Nodup) {i off x : Nat} (hi : i < p.length) (he : (p.getD i (0, 0)).1 = off) : pput p off x = p.set i (off, x) := by
  have hpi : (p.map (·.1))[i]? = some off := by
    rw [List.getElem?_map, List.getElem?_eq_getElem hi]
    rw [List.getD_eq_getElem?_getD, List.getElem?_eq_getElem hi] at he
    simpa using he
  have hs : (plook p off).isSome = true := plook_mem.2 (List.mem_of_getElem? hpi)
  unfold pput
  rw [if_pos hs]
  apply List.ext_getElem?
  intro j
  rw [List.getElem?_map, List.getElem?_set]
  by_cases hij : i = j
  · subst hij
    rw [if_pos rfl, if_pos hi, List.getElem?_eq_getElem hi]
    rw [List.getElem?_map, List.getElem?_eq_getElem hi] at hpi
    simp only [Option.map_some, Option.some.injEq] at hpi
    simp [hpi]
  · rw [if_neg hij]
    cases hj : p[j]? with
    | none => rfl
    | some q =>
      have hne : q.1 ≠ off := fun e => hij (nodup_at hd hpi (by rw [List.getElem?_map, hj]; simp [e]))
      simp [hne]
theorem puts_set {p : List (Nat × Nat)} {i off x : Nat} (hi : i < p.length) : puts (p.set i (off, x)) = ((puts p).set (i * 2) (.int .u64 (off : Int))).set (i * 2 + 1) (.int .u64 (x : Int)) := by
  induction p generalizing i with
  | nil => simp at hi
  | cons q p ih =>
    cases i with
    | zero => simp [puts]
    | succ i =>
      have := ih (i := i) (by simpa using hi)
      have e : ∀ (q : Nat × Nat) (p : List (Nat × Nat)), puts (q :: p) = .int .u64 (q.1 : Int) :: .int .u64 (q.2 : Int) :: puts p := fun q p => by simp [puts]
      rw [List.set_cons_succ, e, e, this, show (i + 1) * 2 = i * 2 + 1 + 1 from by omega]
      simp
theorem puts_snoc (p : List (Nat × Nat)) (off x : Nat) : puts (p ++ [(off, x)]) = puts p ++ [.int .u64 (off : Int), .int .u64 (x : Int)] := by simp [puts]

set_option maxRecDepth 100000 in
set_option maxHeartbeats 2000000 in
theorem rtx_store {S S' : Nat → Prop} {w : World} {A B : Option Addr} {c d : Nat} {σ : St} (h : Nums S w A σ.W) (hp : Puts S' w B σ.p) (hBd : B = none → d = 0) (off x : Nat) (ho : off < 18446744073709551616) (hn : σ.W.length ≤ 17592186044416) (hpn : σ.p.length ≤ 1000000) (hd : (σ.p.map (·.1)).Nodup) :
    Calls Try.prog 156 #[.agg #[.slice A σ.W.length c, .slice B σ.p.length d], .int .u64 (off : Int), .int .u64 (x : Int)] w fun e w' =>
      (∃ B' d', e = .returned (.agg #[.slice A σ.W.length c, .slice B' (σ.store off x).p.length d']) ∧ (B' = none → d' = 0) ∧ Puts (fun b => S' b ∨ w.heap.size ≤ b) w' B' (σ.store off x).p) ∧ Grow w w' := by
  have hg0 : Grow w ((w.alloc (.cells #[.slice A σ.W.length c, .slice B σ.p.length d] 67)).alloc (.cells #[.slice none 0 0, .slice none 0 0] 67)) := ((Below.refl _ _).alloc (Nat.le_refl _) _).alloc (by simp) _
  have hB : ((w.alloc (.cells #[.slice A σ.W.length c, .slice B σ.p.length d] 67)).alloc (.cells #[.slice none 0 0, .slice none 0 0] 67)).heap[w.heap.size]? = some (.cells #[.slice A σ.W.length c, .slice B σ.p.length d] 67 (0, 0)) :=
    (Below.heap_alloc _ _ _ (by simp)).trans (World.alloc_heap_new w _)
  have hT : ((w.alloc (.cells #[.slice A σ.W.length c, .slice B σ.p.length d] 67)).alloc (.cells #[.slice none 0 0, .slice none 0 0] 67)).heap[w.heap.size + 1]? = some (.cells #[.slice none 0 0, .slice none 0 0] 67 (0, 0)) := by
    have := World.alloc_heap_new (w.alloc (.cells #[.slice A σ.W.length c, .slice B σ.p.length d] 67)) (.cells #[.slice none 0 0, .slice none 0 0] 67)
    rw [show (w.alloc (.cells #[.slice A σ.W.length c, .slice B σ.p.length d] 67)).heap.size = w.heap.size + 1 from by simp] at this
    exact this
  have h1 := h.grow hg0
  have hp1 : Puts (fun b => S' b ∧ b < w.heap.size) _ B σ.p := (hp.mono (S' := fun b => S' b ∧ b < w.heap.size) (fun b hb hs => ⟨hs, hb⟩)).grow hg0
  clear h hp
  by_cases hc : off % 8 = 0 ∧ off / 8 < σ.W.length
  · have hst : (σ.store off x).p = pput σ.p off x := by unfold St.store; rw [if_pos hc]
    rw [hst]
    clear hst
    obtain ⟨i73, hi, hz, hs, hb⟩ := info_parts info73
    have hld := rload_ok (c := c) h1 off hc.1 hc.2 (by omega)
    generalize σ.W.getD (off / 8) 0 = V at hld
    go_enter Try.func156, Try.ntmps156
    go_wp2_with fail
    generalize (w.alloc (.cells #[.slice A σ.W.length c, .slice B σ.p.length d] 67)).alloc (.cells #[.slice none 0 0, .slice none 0 0] 67) = w1 at hg0 hB hT h1 hp1 hld ⊢
    refine hld.mono ?_
    rintro e w' ⟨rfl, rfl⟩
    clear hld
    have hga : Grow w1 (w1.alloc (Obj.cells #[] 73)) := (Below.refl _ w1).alloc (Nat.le_refl _) _
    have a1 : (w1.alloc (Obj.cells #[] 73)).cell? ⟨w.heap.size, 1, none⟩ = some (.slice B σ.p.length d) := by rw [cell_of_heap (hga.heap hB)]; rfl
    go_wp2_with (at_builtin; refine wpList_append_row (S := fun b => S' b ∧ b < w.heap.size) _ rfl (.tmp 21) (.tmp 23) 64 rfl w1.heap.size 73 i73 _ 2 16 Try.underlying64 hi hz hs hb rfl (by decide) _ 0 [] rfl (World.ownsRow_made w1 #[] 0 (Nat.le_refl _) (Nat.zero_le _) rfl) _ _ _ (puts σ.p) rfl (hp1.grow hga) hBd (puts_one _) (by unfold maxLen; omega) (by omega) (by simp) ?_)
    intro v' w2 hown ho2
    replace hown : w2.ownsRow w1.heap.size 73 2 v' σ.p.length (puts σ.p) := by simpa using hown
    have hg2 : Grow w1 w2 := (Only.below ((Only.of_below hga).trans ho2) (Nat.le_refl _) (fun k hk => by simp [Value.ownBlock] at hk; omega))
    have hsz1 := hg0.size
    have hB2 := hg2.heap hB
    have hT2 := hg2.heap hT
    have hp2 := hp1.grow hg2
    have hg02 := hg0.trans hg2
    have hw1 : w.heap.size + 1 < w1.heap.size := lt_of_heap hT
    clear ho2 hga a1 hB hT hp1 h1 hg0
    obtain ⟨A1, c1, rfl, hle, -, -⟩ := Row.of_own hown
    have a0 : w2.cell? ⟨w.heap.size, 0, none⟩ = some (.slice A σ.W.length c) := by rw [cell_of_heap hB2]; rfl
    have a1 : w2.cell? ⟨w.heap.size, 1, none⟩ = some (.slice B σ.p.length d) := by rw [cell_of_heap hB2]; rfl
    go_wp2_with fail
    refine (rat (m := σ.W.length) (A := A) (c := c) (d := d) hp2 off (by omega)).mono ?_
    rintro e w3 ⟨hr, hg3⟩
    have hg03 := hg02.trans hg3
    have hB3 := hg3.heap hB2
    have hT3 := hg3.heap hT2
    have hown3 := own_grow hown hg3
    have hsz3 := Nat.le_trans hg2.size hg3.size
    clear hB2 hT2 hown hp2 a0 a1 hg02 hg2 hg3
    have a0 : w3.cell? ⟨w.heap.size, 0, none⟩ = some (.slice A σ.W.length c) := by rw [cell_of_heap hB3]; rfl
    have t0 : w3.cell? ⟨w.heap.size + 1, 0, none⟩ = some (.slice none 0 0) := by rw [cell_of_heap hT3]; rfl
    have t1 : w3.cell? ⟨w.heap.size + 1, 1, none⟩ = some (.slice none 0 0) := by rw [cell_of_heap hT3]; rfl
    have f0 := frozen_of_heap hT3 0
    have f1 := frozen_of_heap hT3 1
    rcases hr with ⟨i, rfl, hil, hie, -⟩ | ⟨rfl, hl⟩
    · have hset := pput_set (x := x) hd hil hie
      obtain ⟨g, cap, cur, hv, hbg, hgc, hcap, hcm, hcz, hcur⟩ := own_form hown3 (by omega)
      cases hv
      have hx0 := hcur _ _ (puts_get hil).1
      have hx1 := hcur _ _ (puts_get hil).2
      have y0 : w3.cell? ⟨g, i * 2, none⟩ = _ := (cell_of_heap hgc _).trans hx0
      have y1 : w3.cell? ⟨g, i * 2 + 1, none⟩ = _ := (cell_of_heap hgc _).trans hx1
      have z0 := frozen_of_heap hgc (i * 2)
      have z1 := frozen_of_heap hgc (i * 2 + 1)
      have g0 : decide ((0 : Int) ≤ i) = true := decide_eq_true (by omega)
      generalize (σ.p.getD i (0, 0)).1 = k1 at y0
      generalize (σ.p.getD i (0, 0)).2 = k2 at y1
      have HC := Lib.hid hcur
      have HS := Lib.hid hset
      have HO := Lib.hid hown3
      clear hcur hset hown3 hx0 hx1 hie
      have hne : g ≠ w.heap.size := by omega
      have hne1 : g ≠ w.heap.size + 1 := by omega
      go_wp2
      have hgT : ∀ (X : World) (u : Value) (o : Nat), (X.setCell ⟨g, o, none⟩ u).heap[w.heap.size + 1]? = X.heap[w.heap.size + 1]? := fun X u o => Below.heap_setCell _ _ _ _ (by simp; omega)
      have hTg : ∀ (X : World) (u : Value) (o : Nat), (X.setCell ⟨w.heap.size + 1, o, none⟩ u).heap[g]? = X.heap[g]? := fun X u o => Below.heap_setCell _ _ _ _ (by simp; omega)
      have hT5 : ((w3.setCell ⟨g, i * 2, none⟩ (.int .u64 (off : Int))).setCell ⟨g, i * 2 + 1, none⟩ (.int .u64 (x : Int))).heap[w.heap.size + 1]? = some (.cells #[.slice none 0 0, .slice none 0 0] 67 (0, 0)) := by rw [hgT, hgT]; exact hT3
      have hg5 := heap_setCell_row (heap_setCell_row hgc (i := i * 2) (.int .u64 (off : Int))) (i := i * 2 + 1) (.int .u64 (x : Int))
      refine ret_tx (g := w.heap.size + 1) rfl rfl (heap_setCell_row (heap_setCell_row hT5 (i := 0) (.slice A σ.W.length c)) (i := 1) (.slice (some ⟨g, 0, none⟩) σ.p.length c1)) rfl ⟨⟨some ⟨g, 0, none⟩, c1, ?_, fun h => (by cases h), ?_⟩, ?_⟩
      · rw [HS.out, List.length_set]; rfl
      · rw [HS.out]
        refine Row.of_block ((hTg _ _ _).trans ((hTg _ _ _).trans hg5)) (.inr (by omega)) (by rw [puts_length]) fun j u hj => ?_
        rw [puts_set hil] at hj
        rw [Array.getElem?_setIfInBounds]
        rw [List.getElem?_set] at hj
        have hil2 : i * 2 + 1 < cur.size := by omega
        by_cases e1 : i * 2 + 1 = j
        · rw [if_pos e1] at hj ⊢
          rw [if_pos (by simp; omega)]
          split at hj
          · exact hj
          · cases hj
        · rw [if_neg e1] at hj ⊢
          rw [Array.getElem?_setIfInBounds]
          rw [List.getElem?_set] at hj
          by_cases e2 : i * 2 = j
          · rw [if_pos e2] at hj ⊢
            rw [if_pos (by omega)]
            split at hj
            · exact hj
            · cases hj
          · rw [if_neg e2] at hj ⊢
            exact HC.out j u hj
      · exact (((hg03.setCell (p := ⟨g, i * 2, none⟩) (by simp; omega) _).setCell (p := ⟨g, i * 2 + 1, none⟩) (by simp; omega) _).setCell (p := ⟨w.heap.size + 1, 0, none⟩) (by simp) _).setCell (p := ⟨w.heap.size + 1, 1, none⟩) (by simp) _
    · have hpp : pput σ.p off x = σ.p ++ [(off, x)] := by unfold pput; rw [hl]; rfl
      have HP := Lib.hid hpp
      clear hpp hl
      go_wp2_with (at_builtin; refine wpList_push2 w3 rfl (.tmp 36) (.tmp 40) 64 rfl w1.heap.size 73 i73 _ 2 16 Try.underlying64 hi hz hs hb rfl (by decide) _ _ _ rfl hown3 #[.int .u64 (off : Int), .int .u64 (x : Int)] rfl rfl (by simp [Value.oneCell']) rfl (by unfold maxLen; omega) (by omega) hsz3 ?_)
      intro v' w4 hown4 ho4 hwh
      have hA : ∀ b, (Value.slice A1 σ.p.length c1).ownBlock = some b → w1.heap.size ≤ b := own_ge hown3
      have hB4 := ho4.heap hB3 (fun e => by have := hA _ e; omega)
      have hT4 := ho4.heap hT3 (fun e => by have := hA _ e; omega)
      have hg04 : Grow w w4 := Below.trans hg03 (ho4.below hg03.size (fun k hk => by have := hA _ hk; omega))
      obtain ⟨g, cap, cur, rfl, hbg, hgc, hcap, hcm, hcz, hcur⟩ := own_form hown4 (by omega)
      have HC := Lib.hid hcur
      clear hown3 hown4 ho4 hwh a0 t0 t1 f0 f1 hB3 hT3 hcur
      have a0 : w4.cell? ⟨w.heap.size, 0, none⟩ = some (.slice A σ.W.length c) := by rw [cell_of_heap hB4]; rfl
      have t0 : w4.cell? ⟨w.heap.size + 1, 0, none⟩ = some (.slice none 0 0) := by rw [cell_of_heap hT4]; rfl
      have t1 : w4.cell? ⟨w.heap.size + 1, 1, none⟩ = some (.slice none 0 0) := by rw [cell_of_heap hT4]; rfl
      have f0 := frozen_of_heap hT4 0
      have f1 := frozen_of_heap hT4 1
      go_wp2
      have hTg : ∀ (X : World) (u : Value) (o : Nat), (X.setCell ⟨w.heap.size + 1, o, none⟩ u).heap[g]? = X.heap[g]? := fun X u o => Below.heap_setCell _ _ _ _ (by simp; omega)
      refine ret_tx (g := w.heap.size + 1) rfl rfl (heap_setCell_row (heap_setCell_row hT4 (i := 0) (.slice A σ.W.length c)) (i := 1) (.slice (some ⟨g, 0, none⟩) (σ.p.length + 1) cap)) rfl ⟨⟨some ⟨g, 0, none⟩, cap, ?_, fun h => (by cases h), ?_⟩, ?_⟩
      · rw [HP.out, List.length_append]; rfl
      · rw [HP.out]
        refine Row.of_block ((hTg _ _ _).trans ((hTg _ _ _).trans hgc)) (.inr (by omega)) (by rw [puts_length]) fun j u hj => ?_
        rw [puts_snoc] at hj
        exact HC.out j u hj
      · exact (hg04.setCell (p := ⟨w.heap.size + 1, 0, none⟩) (by simp) _).setCell (p := ⟨w.heap.size + 1, 1, none⟩) (by simp) _
  · have hst : σ.store off x = σ := by unfold St.store; rw [if_neg hc]
    rw [hst]
    clear hst
    go_enter Try.func156, Try.ntmps156
    go_wp2_with fail
    generalize (w.alloc (.cells #[.slice A σ.W.length c, .slice B σ.p.length d] 67)).alloc (.cells #[.slice none 0 0, .slice none 0 0] 67) = w1 at hg0 hB hT h1 hp1 ⊢
    refine (rload_bad A σ.W.length c off w1 ho hc (by omega)).mono ?_
    rintro e w' ⟨rfl, rfl⟩
    have a0 : w1.cell? ⟨w.heap.size, 0, none⟩ = some (.slice A σ.W.length c) := by rw [cell_of_heap hB]; rfl
    have a1 : w1.cell? ⟨w.heap.size, 1, none⟩ = some (.slice B σ.p.length d) := by rw [cell_of_heap hB]; rfl
    have t0 : w1.cell? ⟨w.heap.size + 1, 0, none⟩ = some (.slice none 0 0) := by rw [cell_of_heap hT]; rfl
    have t1 : w1.cell? ⟨w.heap.size + 1, 1, none⟩ = some (.slice none 0 0) := by rw [cell_of_heap hT]; rfl
    have f0 := frozen_of_heap hT 0
    have f1 := frozen_of_heap hT 1
    have HT := Lib.hid (heap_setCell_row (heap_setCell_row hT (i := 0) (.slice A σ.W.length c)) (i := 1) (.slice B σ.p.length d))
    have HP := Lib.hid hp1
    clear hp1 h1 hB hT
    go_wp2
    refine ret_tx (g := w.heap.size + 1) rfl rfl HT.out rfl ⟨⟨B, d, rfl, hBd, ?_⟩, ?_⟩
    · have hoT : Only (fun b => b = w.heap.size + 1) w1 ((w1.setCell ⟨w.heap.size + 1, 0, none⟩ (.slice A σ.W.length c)).setCell ⟨w.heap.size + 1, 1, none⟩ (.slice B σ.p.length d)) :=
        Only.setCell (S := fun b => b = w.heap.size + 1) (p := ⟨w.heap.size + 1, 1, none⟩) (Only.setCell (S := fun b => b = w.heap.size + 1) (p := ⟨w.heap.size + 1, 0, none⟩) (Only.refl _ _) rfl _) rfl _
      exact (HP.out.only hoT (fun b hb hs => by have := hs.2; omega)).mono (fun b _ hb => .inl hb.1)
    · exact (hg0.setCell (by simp) _).setCell (by simp) _
end Go.Proofs.Ck

namespace Go.Proofs.Ck
open Go Go.RowKit

/-- The program's words that are thought of, and the document's, alike. -/
structure Pair (w : World) (base : Nat) (v rv : Value) (M : Nat → Prop) (σ : St) : Prop where
  tx : TxAt w base v M σ
  ref : ∃ A c B d, rv = .agg #[.slice A σ.W.length c, .slice B σ.p.length d] ∧ Nums (fun b => ¬ M b) w A σ.W ∧ Puts (fun b => ¬ M b) w B σ.p ∧ (B = none → d = 0)

theorem TxAt.nodup {w : World} {base : Nat} {v : Value} {M : Nat → Prop} {σ : St} (h : TxAt w base v M σ) : (σ.p.map (·.1)).Nodup := by
  obtain ⟨tb, mb, T, sb, bb, cap, cs, h1, rfl, h3⟩ := h
  exact h3.nodup
theorem TxAt.lt {w : World} {base : Nat} {v : Value} {M : Nat → Prop} {σ : St} (h : TxAt w base v M σ) : ∀ b, M b → b < w.heap.size := by
  obtain ⟨tb, mb, T, sb, bb, cap, cs, h1, rfl, h3⟩ := h
  rintro b (rfl | rfl | hb)
  · exact lt_of_heap h3.tx
  · obtain ⟨es, c, h4, _⟩ := h3.map
    exact lt_of_heap h4
  · exact (h3.turn.lt b hb).2

/-- A row that the changing blocks don't hold stays, behind a change. -/
theorem Row.past {w w' : World} {M M' : Nat → Prop} {A : Option Addr} {n k : Nat} {xs : List Value} (h : Row (fun b => ¬ M b) w A n k xs) (ho : Only M w w') (hM : ∀ b, M' b → M b ∨ w.heap.size ≤ b) : Row (fun b => ¬ M' b) w' A n k xs := by
  have h1 : Row (fun b => ¬ M b ∧ b < w.heap.size) w A n k xs := h.mono fun b hb hs => ⟨hs, hb⟩
  refine (h1.only ho (fun b hb hs => hs.1 hb)).mono fun b _ hs hm => ?_
  rcases hM b hm with h2 | h2
  · exact hs.1 h2
  · omega

theorem Row.past2 {w w' : World} {M M' Q : Nat → Prop} {A : Option Addr} {n k : Nat} {xs : List Value} (h : Row (fun b => ¬ M b ∧ Q b) w A n k xs) (ho : Only M w w') (hM : ∀ b, M' b → M b ∨ w.heap.size ≤ b) : Row (fun b => ¬ M' b ∧ Q b) w' A n k xs := by
  have h1 : Row (fun b => (¬ M b ∧ Q b) ∧ b < w.heap.size) w A n k xs := h.mono fun b hb hs => ⟨hs, hb⟩
  refine (h1.only ho (fun b hb hs => hs.1.1 hb)).mono fun b _ hs => ⟨fun hm => ?_, hs.1.2⟩
  rcases hM b hm with h2 | h2
  · exact hs.1.1 h2
  · omega

theorem TxAt.other {w w' : World} {base : Nat} {v : Value} {M N : Nat → Prop} {σ : St} (h : TxAt w base v M σ) (ho : Only N w w') (hN : ∀ b, N b → ¬ M b ∧ base ≤ b) : TxAt w' base v M σ := by
  obtain ⟨tb, mb, T, sb, bb, cap, cs, h1, rfl, h3⟩ := h
  refine ⟨tb, mb, T, sb, bb, cap, cs, h1, rfl, ?_⟩
  have hM : ∀ b, Mut tb mb T b → ¬ N b := fun b hb hn => (hN b hn).1 hb
  have hS : ∀ b, b < base → ¬ N b := fun b hb hn => by have := (hN b hn).2; omega
  obtain ⟨es, c, hm, he⟩ := h3.map
  exact { h3 with
    tx := ho.heap h3.tx (hM _ (.inl rfl))
    seg := h3.seg.moved (ho.block _ h3.seg.lt (hS _ h3.baseS.1)) (ho.block _ h3.seg.lt' (hS _ h3.baseS.2))
    map := ⟨es, c, ho.heap hm (hM _ (.inr (.inl rfl))), he⟩
    turn := own_moved h3.turn (fun b hb => ho.block _ (h3.turn.lt b hb).2 (hM _ (.inr (.inr hb)))) }

theorem TxAt.other67 {w w' : World} {base : Nat} {v : Value} {M N : Nat → Prop} {σ : St} (h : TxAt w base v M σ) (ho : Only N w w') (hN : ∀ b, N b → ¬ M b ∧ ∃ cs f, w.heap[b]? = some (.cells cs 67 f)) : TxAt w' base v M σ := by
  obtain ⟨tb, mb, T, sb, bb, cap, cs, h1, rfl, h3⟩ := h
  refine ⟨tb, mb, T, sb, bb, cap, cs, h1, rfl, ?_⟩
  have hM : ∀ b, Mut tb mb T b → ¬ N b := fun b hb hn => (hN b hn).1 hb
  have hS1 : ¬ N sb := fun hn => by
    obtain ⟨_, c, f, h⟩ := hN _ hn
    have h2 := h3.seg.seg
    rw [h] at h2
    cases h2
  have hS2 : ¬ N bb := fun hn => by
    obtain ⟨_, c, f, h⟩ := hN _ hn
    have h2 := h3.seg.bytes
    rw [h] at h2
    cases h2
  obtain ⟨es, c, hm, he⟩ := h3.map
  exact { h3 with
    tx := ho.heap h3.tx (hM _ (.inl rfl))
    seg := h3.seg.moved (ho.block _ h3.seg.lt hS1) (ho.block _ h3.seg.lt' hS2)
    map := ⟨es, c, ho.heap hm (hM _ (.inr (.inl rfl))), he⟩
    turn := own_moved h3.turn (fun b hb => ho.block _ (h3.turn.lt b hb).2 (hM _ (.inr (.inr hb)))) }

/-- What is thought of, so many words of a list stored. -/
def fillS (σ : St) (l : List (Nat × Nat)) : St := l.foldl (fun σ q => σ.store q.1 q.2) σ
theorem fillS_snoc (σ : St) (l : List (Nat × Nat)) (q : Nat × Nat) : fillS σ (l ++ [q]) = (fillS σ l).store q.1 q.2 := by simp [fillS]
theorem store_W (σ : St) (off x : Nat) : (σ.store off x).W = σ.W := by unfold St.store; split <;> rfl
theorem store_p (σ : St) (off x : Nat) : (σ.store off x).p.length ≤ σ.p.length + 1 := by
  unfold St.store
  split
  · show (pput σ.p off x).length ≤ _
    unfold pput
    split <;> simp
  · omega
theorem fillS_W (σ : St) (l : List (Nat × Nat)) : (fillS σ l).W = σ.W := by
  unfold fillS
  induction l generalizing σ with
  | nil => rfl
  | cons q l ih => rw [List.foldl_cons, ih, store_W]
theorem fillS_p (σ : St) (l : List (Nat × Nat)) : (fillS σ l).p.length ≤ σ.p.length + l.length := by
  unfold fillS
  induction l generalizing σ with
  | nil => simp
  | cons q l ih =>
    rw [List.foldl_cons, List.length_cons]
    have := ih (σ.store q.1 q.2)
    have := store_p σ q.1 q.2
    omega

theorem results_tmp_cell {fn : Func} {p u : Tmp} {ty : TypeId} {P : Program} (h : fn.results = #[.tmp u, .cell p ty]) (tmps : Array Value) (w : World) (g : Nat) (cs : Array Value)
    (hp : tmps.getD p undef = .pointer (some ⟨g, 0, none⟩)) (hl : (loadVar ty ⟨g, 0, none⟩).run P w = .ok (.agg cs) w) :
    (results fn tmps).run P w = .ok (.tuple #[tmps.getD u undef, .agg cs]) w := by
  have hp' : tmps[p]?.getD undef = .pointer (some ⟨g, 0, none⟩) := by simpa using hp
  simp only [results, h]
  simp [Result.andThen, hp', asAddr, hl]
theorem ret_formed {fn : Func} {R : Ending → World → Prop} {tmps : Array Value} {p u : Tmp} {W : World} {g : Nat} {cs : Array Value} {fr : Nat × Nat} {v : Value} (hf : fn.results = #[.tmp u, .cell p 67])
    (hp : tmps.getD p undef = .pointer (some ⟨g, 0, none⟩)) (hv : tmps.getD u undef = v) (hg : W.heap[g]? = some (.cells cs 67 fr)) (h2 : cs.size = 2) (hR : R (.returned (.tuple #[v, .agg cs])) W) :
    bodyPost Try.prog fn R .ret ⟨tmps, []⟩ W :=
  bodyPost_ret ((results_tmp_cell hf tmps W g cs hp (run_loadVar_row W g 67 67 cs fr _ hg Try.underlying67 rfl (info67.trans (by rw [h2])))).trans (by rw [hv])) rfl hR
end Go.Proofs.Ck
