/- Words: a name as two words: the reference's. -/
import Derived.Test.YtpakfelekphbmaaName1
import Derived.Lib.ConvBytes
namespace Go.Proofs.Ck
open Go Go.RowKit

/-- The half of a list that a word holds. -/
def sg (l : List Nat) (q : Nat) : List Nat := if q = 0 then l.take 8 else l.drop 8
/-- A word of what stands from a place on. -/
def wfrom (l : List Nat) (q k : Nat) : Nat := pk ((sg l q).drop (k - 8 * q))
theorem wfrom_same {l : List Nat} {j : Nat} (hj : j < l.length) (h16 : l.length ≤ 16) : wfrom l (j / 8) j = l.getD j 0 + 256 * wfrom l (j / 8) (j + 1) := by
  unfold wfrom sg
  by_cases h : j < 8
  · rw [show j / 8 = 0 by omega, if_pos rfl, show j - 8 * 0 = j by omega, show j + 1 - 8 * 0 = j + 1 by omega]
    rw [List.drop_eq_getElem_cons (i := j) (by rw [List.length_take]; omega)]
    rw [show ∀ a t, pk (a :: t) = a + 256 * pk t from fun _ _ => rfl]
    simp [List.getD_eq_getElem?_getD, hj]
  · rw [show j / 8 = 1 by omega, if_neg (by omega), show j + 1 - 8 * 1 = (j - 8 * 1) + 1 by omega]
    rw [List.drop_eq_getElem_cons (i := j - 8 * 1) (by rw [List.length_drop]; omega)]
    rw [show ∀ a t, pk (a :: t) = a + 256 * pk t from fun _ _ => rfl]
    have e : 8 + (j - 8 * 1) = j := by omega
    simp only [List.getElem_drop, e]
    simp [List.getD_eq_getElem?_getD, hj]
theorem wfrom_other {l : List Nat} {j q : Nat} (hq : q ≠ j / 8) (h2 : q < 2) (h16 : j < 16) : wfrom l q j = wfrom l q (j + 1) := by
  unfold wfrom sg
  rcases (show q = 0 ∨ q = 1 by omega) with rfl | rfl
  · rw [if_pos rfl, List.drop_of_length_le (by rw [List.length_take]; omega), List.drop_of_length_le (by rw [List.length_take]; omega)]
  · rw [show j - 8 * 1 = j + 1 - 8 * 1 by omega]
theorem wfrom_lt {l : List Nat} (q k : Nat) (h16 : l.length ≤ 16) (hb : ∀ b ∈ l, b < 256) : wfrom l q k < 18446744073709551616 := by
  unfold wfrom
  have h := pk_lt ((sg l q).drop (k - 8 * q)) (fun b hb' => by
    have := List.mem_of_mem_drop hb'
    unfold sg at this
    split at this
    · exact hb b (List.mem_of_mem_take this)
    · exact hb b (List.mem_of_mem_drop this))
  refine Nat.lt_of_lt_of_le h (Nat.le_trans (Nat.pow_le_pow_right (by omega) (show ((sg l q).drop (k - 8 * q)).length ≤ 8 from ?_)) (by decide))
  rw [List.length_drop]
  unfold sg
  split
  · rw [List.length_take]; omega
  · rw [List.length_drop]; omega
/-- The two words of what stands from a place on. -/
def cfrom (l : List Nat) (k : Nat) : Array Value := #[.int .u64 (wfrom l 0 k : Int), .int .u64 (wfrom l 1 k : Int)]
theorem cfrom_step {l : List Nat} {j : Nat} (hj : j < l.length) (h16 : l.length ≤ 16) :
    (cfrom l (j + 1)).setIfInBounds (j / 8) (.int .u64 ((l.getD j 0 + 256 * wfrom l (j / 8) (j + 1) : Nat) : Int)) = cfrom l j := by
  rw [← wfrom_same hj h16]
  unfold cfrom
  rcases (show j / 8 = 0 ∨ j / 8 = 1 by omega) with h | h
  · rw [h, ← wfrom_other (l := l) (j := j) (q := 1) (by omega) (by omega) (by omega)]; rfl
  · rw [h, ← wfrom_other (l := l) (j := j) (q := 0) (by omega) (by omega) (by omega)]; rfl
theorem cfrom_get {l : List Nat} {j k : Nat} (hj : j < 16) : (cfrom l k)[j / 8]? = some (.int .u64 (wfrom l (j / 8) k : Int)) := by
  unfold cfrom
  rcases (show j / 8 = 0 ∨ j / 8 = 1 by omega) with h | h <;> rw [h] <;> rfl
theorem cfrom_zero (l : List Nat) : cfrom l 0 = packed l := rfl
theorem cfrom_all (l : List Nat) (h16 : l.length ≤ 16) : cfrom l l.length = #[.int .u64 0, .int .u64 0] := by
  unfold cfrom wfrom sg
  rw [if_pos rfl, if_neg (by omega), List.drop_of_length_le (by rw [List.length_take]; omega), List.drop_of_length_le (by rw [List.length_drop]; omega)]
  rfl

theorem strRow (W : World) (s : ByteArray) : Row (fun b => W.heap.size ≤ b) (Lib.bytesWorld W 5 s) (some ⟨W.heap.size, 0, none⟩) s.size 1 (u8s (s.data.toList.map (·.toNat))) := by
  refine ⟨by simp [u8s], fun _ => ⟨_, _, rfl, Nat.le_refl _, fun j u hj => ?_⟩⟩
  have hjl : j < s.size := by
    have := (List.getElem?_eq_some_iff.1 hj).1
    simpa [u8s] using this
  rw [Nat.zero_add, Lib.bytesWorld_cell W 5 s j hjl, ← hj]
  simp [u8s, List.getD, hjl]
theorem strGrow (W : World) (s : ByteArray) : Grow W (Lib.bytesWorld W 5 s) :=
  ⟨rfl, rfl, rfl, by rw [Lib.bytesWorld_size]; omega, fun k hk => Lib.bytesWorld_at_old W 5 s k hk⟩

set_option maxRecDepth 100000 in
theorem rpack_bad (s : ByteArray) (h : s.size < 1 ∨ 15 < s.size) (w : World) :
    Calls Try.prog 65 #[.string s] w fun e w' => e = .returned (.tuple #[.agg #[.int .u64 0, .int .u64 0], .bool false]) ∧ Grow w w' := by
  have hg0 : Grow w (w.alloc (Obj.cells #[Value.int IntKind.u64 0, Value.int IntKind.u64 0] 37)) := (Below.refl _ _).alloc (Nat.le_refl _) _
  have hT := World.alloc_heap_new w (Obj.cells #[Value.int IntKind.u64 0, Value.int IntKind.u64 0] 37)
  by_cases h1 : s.size < 1
  · have t0 : decide ((s.size : Int) < 1) = true := decide_eq_true (by omega)
    go_enter Try.func65, Try.ntmps65
    go_wp2
    exact ret_pair (g := w.heap.size) rfl rfl rfl hT rfl ⟨rfl, hg0⟩
  · have t0 : decide ((s.size : Int) < 1) = false := decide_eq_false (by omega)
    have t1 : decide (15 < (s.size : Int)) = true := decide_eq_true (by omega)
    go_enter Try.func65, Try.ntmps65
    go_wp2
    exact ret_pair (g := w.heap.size) rfl rfl rfl hT rfl ⟨rfl, hg0⟩
end Go.Proofs.Ck
