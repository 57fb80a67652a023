/- Words: a name as two words: the closure. -/
import Derived.Test.YtpakfelekphbmaaGTx
import Derived.StillTailTactics
namespace Go.Proofs.Ck
open Go Go.RowKit
open Go.Proofs.Ytpakfelekphbmaa

set_option maxRecDepth 100000 in
theorem pack1 {w : World} {B i c v : Nat} {cs : Array Value} (hB : w.heap[B]? = some (.cells cs 37 (0, 0))) (hi : i < 16) (hc : c < 256) (hv : cs[i / 8]? = some (.int .u64 (v : Int))) (hv2 : v < 256 ^ (i % 8)) :
    Calls Try.prog 148 #[.int .i64 (i : Int), .int .u8 (c : Int), .pointer (some ⟨B, 0, none⟩)] w fun e w' => e = .returned (.tuple #[]) ∧
      w'.heap[B]? = some (.cells (cs.setIfInBounds (i / 8) (.int .u64 ((v + c * 256 ^ (i % 8) : Nat) : Int))) 37 (0, 0)) ∧ Only (· = B) w w' := by
  have hcell : w.cell? ⟨B, i / 8, none⟩ = some (.int .u64 (v : Int)) := by rw [cell_of_heap hB]; exact hv
  have hfr := frozen_of_heap hB (i / 8)
  have q1 : IntKind.i64.wrap ((i : Int) / 8) = ((i / 8 : Nat) : Int) := by rw [IntKind.wrap_i64]; omega
  have r1 : IntKind.i64.wrap ((i : Int) % 8) = ((i % 8 : Nat) : Int) := by rw [IntKind.wrap_i64]; omega
  have r2 : (i : Int) % 8 = ((i % 8 : Nat) : Int) := by omega
  have r3 : (i : Int).tmod 8 = ((i % 8 : Nat) : Int) := by rw [Int.tmod_eq_emod_of_nonneg (by omega)]; omega
  have c1 : IntKind.u64.wrap (c : Int) = (c : Int) := by rw [IntKind.wrap_u64]; omega
  have r4 : IntKind.i64.wrap (8 * ((i % 8 : Nat) : Int)) = ((8 * (i % 8) : Nat) : Int) := by rw [IntKind.wrap_i64]; omega
  have hq : i / 8 < 2 := by omega
  have hr : i % 8 < 8 := by omega
  have hpow : 256 ^ (i % 8) ≤ 72057594037927936 := Nat.pow_le_pow_right (by omega) (show i % 8 ≤ 7 by omega)
  have hcv : c * 256 ^ (i % 8) ≤ 255 * 256 ^ (i % 8) := Nat.mul_le_mul_right _ (by omega)
  have e256 : (256 : Nat) ^ (i % 8) = 2 ^ (8 * (i % 8)) := by rw [Nat.pow_mul]
  have sh : IntKind.u64.wrap ((c : Int) * 2 ^ (8 * ((i % 8 : Nat) : Int)).toNat) = ((c * 256 ^ (i % 8) : Nat) : Int) := by
    have e1 : (8 * ((i % 8 : Nat) : Int)).toNat = 8 * (i % 8) := by omega
    have e2 : (c : Int) * 2 ^ (8 * (i % 8)) = ((c * 256 ^ (i % 8) : Nat) : Int) := by rw [e256]; simp
    rw [e1, e2, IntKind.wrap_u64]
    omega
  have orr : bits .or .u64 (v : Int) ((c * 256 ^ (i % 8) : Nat) : Int) = ((v + c * 256 ^ (i % 8) : Nat) : Int) := by
    rw [u64_or_nat _ _ (by omega) (by omega)]
    congr 1
    rw [Nat.or_comm, Nat.add_comm]
    have := Nat.two_pow_add_eq_or_of_lt (i := 8 * (i % 8)) (b := v) (by rw [← e256]; exact hv2) c
    rw [← e256, Nat.mul_comm] at this
    exact this.symm
  clear e256
  generalize c * 256 ^ (i % 8) = m at *
  generalize i / 8 = q at *
  generalize i % 8 = r at *
  go_enter Try.func148, Try.ntmps148
  go_wp2
  have al : Try.prog.arrayLen 37 = 2 := by kernel_rfl
  have hix : (0 : Int) ≤ (q : Int) ∧ (q : Int) < 2 := by omega
  have hd : decide ((q : Int) < 2) = true := decide_eq_true (by omega)
  have hd0 : decide (0 ≤ (q : Int)) = true := decide_eq_true (by omega)
  go_still_tail 12, (by kernel_rfl)
  change wpList _ _ _ _ _ w.drew
  have hB' : w.drew.heap[B]? = some (.cells cs 37 (0, 0)) := hB
  have ho : Only (· = B) w w.drew := (Only.refl _ _).drew
  have hcell' : w.drew.cell? ⟨B, q, none⟩ = some (.int .u64 (v : Int)) := hcell
  have hfr' : w.drew.frozen? ⟨B, q, none⟩ = false := hfr
  clear hcell hfr hB
  generalize w.drew = w2 at *
  go_wp2
  go_end0
  exact ⟨rfl, heap_setCell_row hB' _, ho.setCell rfl _⟩

/-- A number out of its bytes, the least first. -/
def pk : List Nat → Nat
  | [] => 0
  | b :: l => b + 256 * pk l
theorem pk_snoc (c : Nat) : ∀ l : List Nat, pk (l ++ [c]) = pk l + c * 256 ^ l.length
  | [] => by simp [pk]
  | b :: l => by
    rw [List.cons_append, pk, pk_snoc c l, pk, List.length_cons, Nat.pow_succ]
    rw [Nat.mul_add, Nat.add_assoc]
    congr 2
    rw [Nat.mul_left_comm, Nat.mul_comm 256]
theorem pk_lt : ∀ l : List Nat, (∀ b ∈ l, b < 256) → pk l < 256 ^ l.length
  | [], _ => by simp [pk]
  | b :: l, h => by
    have := pk_lt l (fun x hx => h x (by simp [hx]))
    have hb := h b (by simp)
    rw [pk, List.length_cons, Nat.pow_succ]
    omega
def packed (l : List Nat) : Array Value := #[.int .u64 ((pk (l.take 8) : Nat) : Int), .int .u64 ((pk (l.drop 8) : Nat) : Int)]

theorem packed_snoc {l : List Nat} (hl : l.length < 16) (c : Nat) :
    (packed l).setIfInBounds (l.length / 8) (.int .u64 (((if l.length < 8 then pk (l.take 8) else pk (l.drop 8)) + c * 256 ^ (l.length % 8) : Nat) : Int)) = packed (l ++ [c]) := by
  unfold packed
  by_cases h : l.length < 8
  · rw [if_pos h, show l.length / 8 = 0 from by omega, show l.length % 8 = l.length from by omega]
    rw [List.take_of_length_le (by omega), List.take_of_length_le (by simp; omega), List.drop_of_length_le (by omega), List.drop_of_length_le (by simp; omega), pk_snoc]
    rfl
  · rw [if_neg h, show l.length / 8 = 1 from by omega, show l.length % 8 = (l.drop 8).length from by simp; omega]
    rw [List.take_append_of_le_length (by omega), List.drop_append_of_le_length (by omega), pk_snoc]
    rfl
theorem packed_get {l : List Nat} (hl : l.length < 16) : (packed l)[l.length / 8]? = some (.int .u64 (((if l.length < 8 then pk (l.take 8) else pk (l.drop 8)) : Nat) : Int)) := by
  unfold packed
  by_cases h : l.length < 8
  · rw [if_pos h, show l.length / 8 = 0 from by omega]; rfl
  · rw [if_neg h, show l.length / 8 = 1 from by omega]; rfl

theorem pack_one {w : World} {B c i : Nat} {l : List Nat} (hB : w.heap[B]? = some (.cells (packed l) 37 (0, 0))) (hi : i = l.length) (hl : l.length < 16) (hb : ∀ b ∈ l, b < 256) (hc : c < 256) :
    Calls Try.prog 148 #[.int .i64 (i : Int), .int .u8 (c : Int), .pointer (some ⟨B, 0, none⟩)] w fun e w' => e = .returned (.tuple #[]) ∧
      w'.heap[B]? = some (.cells (packed (l ++ [c])) 37 (0, 0)) ∧ Only (· = B) w w' := by
  subst hi
  rw [← packed_snoc hl]
  refine pack1 hB hl hc (packed_get hl) ?_
  by_cases h : l.length < 8
  · rw [if_pos h, List.take_of_length_le (by omega), show l.length % 8 = l.length from by omega]
    exact pk_lt l hb
  · rw [if_neg h, show l.length % 8 = (l.drop 8).length from by simp; omega]
    exact pk_lt _ (fun x hx => hb x (List.mem_of_mem_drop hx))
end Go.Proofs.Ck
