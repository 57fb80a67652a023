/- Words that are thought of: a map of words, read and written. -/
import Derived.Test.YtpakfelekphbmaaFill0
import Derived.MapKept
import Derived.Carry
namespace Go.Proofs.Ck
open Go Go.RowKit

/-- The word that is thought of at an offset. -/
def plook (p : List (Nat × Nat)) (off : Nat) : Option Nat := (p.find? (fun q => q.1 == off)).map (·.2)
/-- The words that are thought of behind one more. -/
def pput (p : List (Nat × Nat)) (off v : Nat) : List (Nat × Nat) :=
  if (plook p off).isSome then p.map (fun q => if q.1 = off then (off, v) else q) else p ++ [(off, v)]

/-- A map's entries are these words, in turn. -/
def Entries (es : Array MapEntry) (p : List (Nat × Nat)) : Prop :=
  es.toList.map (fun e => (e.key, e.val)) = p.map (fun q => (Value.int .u64 (q.1 : Int), Value.int .u64 (q.2 : Int)))

theorem plook_cons (q : Nat × Nat) (p : List (Nat × Nat)) (off : Nat) : plook (q :: p) off = if q.1 = off then some q.2 else plook p off := by
  unfold plook
  rw [List.find?_cons]
  by_cases h : q.1 = off
  · simp [h]
  · have : (q.1 == off) = false := by simpa using h
    rw [this]
    simp only [if_neg h]

theorem findNow_at (off : Nat) : ∀ (l : List MapEntry) (p : List (Nat × Nat)) (i : Nat), l.map (fun e => (e.key, e.val)) = p.map (fun q => (Value.int .u64 (q.1 : Int), Value.int .u64 (q.2 : Int))) →
    (plook p off = none ∧ Instr.findNow (.int .u64) (.int .u64 (off : Int)) l i = some none) ∨
    ∃ j v, plook p off = some v ∧ j < l.length ∧ (p[j]?).map (·.1) = some off ∧ (∀ k, k < j → (p[k]?).map (·.1) ≠ some off) ∧ Instr.findNow (.int .u64) (.int .u64 (off : Int)) l i = some (some (i + j, .int .u64 (v : Int)))
  | [], p, i, h => by
    have : p = [] := by cases p with | nil => rfl | cons a b => simp at h
    subst this
    exact .inl ⟨rfl, rfl⟩
  | e :: l, [], i, h => by simp at h
  | e :: l, q :: p, i, h => by
    simp only [List.map_cons, List.cons.injEq, Prod.mk.injEq] at h
    obtain ⟨⟨hk, hv⟩, ht⟩ := h
    rw [plook_cons]
    unfold Instr.findNow
    rw [hk, hv]
    by_cases he : q.1 = off
    · refine .inr ⟨0, q.2, by rw [if_pos he], by simp, by simp [he], fun k hk => by omega, ?_⟩
      simp [Instr.sameNow, he]
    · rw [if_neg he]
      have hs : Instr.sameNow (.int .u64) (.int .u64 (off : Int)) (.int .u64 (q.1 : Int)) = some false := by
        simp [Instr.sameNow]
        omega
      rw [hs]
      rcases findNow_at off l p (i + 1) ht with ⟨h1, h2⟩ | ⟨j, v, h1, h2, h3, h4, h5⟩
      · exact .inl ⟨h1, h2⟩
      · refine .inr ⟨j + 1, v, h1, by simpa using h2, by simpa using h3, fun k hk => ?_, ?_⟩
        · cases k with
          | zero => simpa using he
          | succ k => simpa using h4 k (by omega)
        · simp only [h5]
          congr 3
          omega

section
variable {P : Program} {w : World} {mt kt et : TypeId} {mb clock : Nat} {es : Array MapEntry} {p : List (Nat × Nat)}

theorem run_lookup_some (hm : P.underlying mt = some (.map kt et)) (hk : P.underlying kt = some (.int .u64)) (hb : w.heap[mb]? = some (.map es clock)) (he : Entries es p) {off v : Nat} (h : plook p off = some v) :
    (Instr.lookup mt (.map (some mb)) (.int .u64 (off : Int)) true).run P w = .ok (.tuple #[.int .u64 (v : Int), .bool true]) w := by
  have hc : ∀ b, (Instr.checkKey b 10000 kt (.int .u64 (off : Int))).run P w = .ok () w := fun b => MapKept.run_checkKey (k := .int .u64 (off : Int)) hk (by simp [MapKept.IsKey]) b 9999
  rcases findNow_at off es.toList p 0 he with ⟨h1, _⟩ | ⟨j, v', h1, _, _, _, h5⟩
  · rw [h1] at h; cases h
  · rw [h1] at h
    cases h
    simp [Instr.lookup, run_underlying hm, MapKept.run_getObj_map hb, hc, MapKept.run_findKey hk h5, Result.andThen]

theorem run_lookup_none (hm : P.underlying mt = some (.map kt et)) (hk : P.underlying kt = some (.int .u64)) (hz : ∀ w, (zeroValue et).run P w = .ok (.int .u64 0) w) (hb : w.heap[mb]? = some (.map es clock)) (he : Entries es p) {off : Nat} (h : plook p off = none) :
    (Instr.lookup mt (.map (some mb)) (.int .u64 (off : Int)) true).run P w = .ok (.tuple #[.int .u64 0, .bool false]) w := by
  have hc : ∀ b, (Instr.checkKey b 10000 kt (.int .u64 (off : Int))).run P w = .ok () w := fun b => MapKept.run_checkKey (k := .int .u64 (off : Int)) hk (by simp [MapKept.IsKey]) b 9999
  rcases findNow_at off es.toList p 0 he with ⟨_, h1⟩ | ⟨j, v', h1, _⟩
  · simp [Instr.lookup, run_underlying hm, MapKept.run_getObj_map hb, hc, MapKept.run_findKey hk h1, Result.andThen, hz]
  · rw [h] at h1; cases h1

theorem nodup_at {l : List Nat} (h : l.Nodup) {i j x : Nat} (h1 : l[i]? = some x) (h2 : l[j]? = some x) : i = j := by
  obtain ⟨hi, e1⟩ := List.getElem?_eq_some_iff.1 h1
  obtain ⟨hj, e2⟩ := List.getElem?_eq_some_iff.1 h2
  have hp := List.pairwise_iff_getElem.1 h
  rcases Nat.lt_trichotomy i j with hij | hij | hij
  · exact absurd (e1.trans e2.symm) (hp i j hi hj hij)
  · exact hij
  · exact absurd (e2.trans e1.symm) (hp j i hj hi hij)

theorem plook_mem {p : List (Nat × Nat)} {off : Nat} : (plook p off).isSome ↔ off ∈ p.map (·.1) := by
  induction p with
  | nil => simp [plook]
  | cons q p ih =>
    rw [plook_cons, List.map_cons, List.mem_cons]
    by_cases h : q.1 = off
    · simp [h]
    · rw [if_neg h, ih]
      constructor
      · exact .inr
      · rintro (h' | h')
        · exact absurd h'.symm h
        · exact h'
theorem pput_keys {p : List (Nat × Nat)} {off v : Nat} : (pput p off v).map (·.1) = if (plook p off).isSome then p.map (·.1) else p.map (·.1) ++ [off] := by
  unfold pput
  split
  · rw [List.map_map]
    apply List.map_congr_left
    intro q _
    simp only [Function.comp]
    split
    · next h => exact h.symm
    · rfl
  · simp

/-- A word is written into the map. -/
theorem run_mapUpdate_word (hm : P.underlying mt = some (.map kt et)) (hk : P.underlying kt = some (.int .u64)) (hb : w.heap[mb]? = some (.map es clock)) (he : Entries es p) (hd : (p.map (·.1)).Nodup) (off v : Nat) :
    ∃ es' clock', (Instr.mapUpdate mt (.map (some mb)) (.int .u64 (off : Int)) (.int .u64 (v : Int))).run P w = .ok () { w with heap := w.heap.setIfInBounds mb (.map es' clock') } ∧ Entries es' (pput p off v) := by
  have hkey : MapKept.IsKey (.int .u64) (.int .u64 (off : Int)) := by simp [MapKept.IsKey]
  have hc : (Instr.checkKey false 10000 kt (.int .u64 (off : Int))).run P w = .ok () w := MapKept.run_checkKey (k := .int .u64 (off : Int)) hk hkey false 9999
  rcases findNow_at off es.toList p 0 he with ⟨h1, h2⟩ | ⟨j, v', h1, h2, h3, h4, h5⟩
  · refine ⟨es.push ⟨.int .u64 (off : Int), .int .u64 (v : Int), clock⟩, clock + 1, ?_, ?_⟩
    · simp [Instr.mapUpdate, run_underlying hm, MapKept.run_getObj_map hb, hc, MapKept.run_findKey hk h2, MapKept.run_setObj_map _ hb, Result.andThen]
    · unfold Entries pput at *
      rw [h1]
      simp [he]
  · have hkj : ((es[j]?).map (·.key)).getD (.int .u64 (off : Int)) = .int .u64 (off : Int) := by
      have := congrArg (fun l => (l[j]?).map (·.1)) he
      simp only [List.getElem?_map] at this
      cases hp : p[j]? with
      | none => rw [hp] at h3; simp at h3
      | some q =>
        rw [hp] at h3 this
        simp only [Option.map_some, Option.some.injEq] at h3
        cases hes : es[j]? with
        | none => simp
        | some e =>
          have hes' : es.toList[j]? = some e := by simpa using hes
          rw [hes'] at this
          simp only [Option.map_some, Option.some.injEq] at this
          simp [this, h3]
    refine ⟨es.modify j (fun e => { e with key := .int .u64 (off : Int), val := .int .u64 (v : Int) }), clock, ?_, ?_⟩
    · simp only [Instr.mapUpdate, Sem.run_bind, run_underlying hm, MapKept.run_getObj_map hb, hc, MapKept.run_findKey hk h5, Result.andThen, Nat.zero_add, hkj, MapKept.run_keyThatStays hkey, MapKept.run_setObj_map _ hb]
    · unfold Entries at *
      have hs : (plook p off).isSome = true := by rw [h1]; rfl
      unfold pput
      rw [if_pos hs]
      apply List.ext_getElem?
      intro i
      have hi := congrArg (fun l => l[i]?) he
      simp only [List.getElem?_map] at hi ⊢
      rw [Array.toList_modify, List.getElem?_modify]
      cases hpi : p[i]? with
      | none =>
        rw [hpi] at hi
        cases hei : es.toList[i]? with
        | none => rfl
        | some e => rw [hei] at hi; simp at hi
      | some q =>
        rw [hpi] at hi
        cases hei : es.toList[i]? with
        | none => rw [hei] at hi; simp at hi
        | some e =>
          rw [hei] at hi
          simp only [Option.map_some, Option.some.injEq, Prod.mk.injEq] at hi
          obtain ⟨hi1, hi2⟩ := hi
          by_cases hji : j = i
          · subst hji
            rw [hpi] at h3
            simp only [Option.map_some, Option.some.injEq] at h3
            simp [h3]
          · have hne : q.1 ≠ off := by
              intro e1
              have a1 : (p.map (·.1))[i]? = some off := by simp [hpi, e1]
              have a2 : (p.map (·.1))[j]? = some off := by simpa using h3
              exact hji (nodup_at hd a2 a1)
            simp [hji, hne, hi1, hi2]
end
end Go.Proofs.Ck
