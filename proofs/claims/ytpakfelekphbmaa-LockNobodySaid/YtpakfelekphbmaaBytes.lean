/- A part of the proofs of this seat's laws. -/
import Derived.Test.YtpakfelekphbmaaNew
import Derived.Laws.CopyOwn
namespace Go.Proofs.Ck
open Go Go.RowKit

def u8s (l : List Nat) : List Value := l.map fun (x : Nat) => Value.int .u8 (x : Int)
theorem u8s_length (l : List Nat) : (u8s l).length = l.length := by simp [u8s]
theorem u8s_one (l : List Nat) : ∀ u ∈ u8s l, u.oneCell' = true := by
  intro u hu
  obtain ⟨x, _, rfl⟩ := List.mem_map.1 hu
  rfl
/-- Some bytes of a segment. -/
def bytesOf (W : List Nat) (off n : Nat) : List Nat := (List.range n).map fun j => segByte W (off + j)
theorem bytesOf_length (W : List Nat) (off n : Nat) : (bytesOf W off n).length = n := by simp [bytesOf]

/-- A slice of bytes. -/
abbrev Byts (S : Nat → Prop) (w : World) (A : Option Addr) (l : List Nat) : Prop := Row S w A l.length 1 (u8s l)

set_option maxHeartbeats 400000 in
theorem bytes_nil (w : World) (off n : Int) : 
    Calls Try.prog 45 #[.pointer none, .int .u64 off, .int .u64 n] w fun e w' => e = .returned (.tuple #[.slice none 0 0, .int .i64 1]) ∧ w = w' := by
  go_enter Try.func45, Try.ntmps45
  go_wp2
  go_ret2
  exact ⟨rfl, rfl⟩

set_option maxHeartbeats 400000 in
theorem bytes_bad {w : World} {sb bb cap : Nat} {cs : Array Value} {W : List Nat} (h : SegRep w sb bb cap cs W) (off n : Nat) (ho : off < 18446744073709551616) (hb : ¬ (off ≤ 8 * W.length ∧ n ≤ 8 * W.length - off)) :
    Calls Try.prog 45 #[.pointer (some ⟨sb, 0, none⟩), .int .u64 (off : Int), .int .u64 (n : Int)] w fun e w' => e = .returned (.tuple #[.slice none 0 0, .int .i64 1]) ∧ w = w' := by
  have hhead := h.head
  have hs := h.small
  by_cases h1 : off ≤ 8 * W.length
  · have h2 : ¬ n ≤ 8 * W.length - off := fun x => hb ⟨h1, x⟩
    go_enter Try.func45, Try.ntmps45
    go_wp2_with (go_at_call 58; refine (size_some sb _ _ _ _ hhead (by omega)).mono ?_; rintro e w' ⟨rfl, rfl⟩)
    all_goals (go_ret2; exact ⟨rfl, rfl⟩)
  · go_enter Try.func45, Try.ntmps45
    go_wp2_with (go_at_call 58; refine (size_some sb _ _ _ _ hhead (by omega)).mono ?_; rintro e w' ⟨rfl, rfl⟩)
    all_goals (go_ret2; exact ⟨rfl, rfl⟩)

set_option maxRecDepth 100000 in
set_option maxHeartbeats 1000000 in
theorem bytes_ok {w : World} {sb bb cap : Nat} {cs : Array Value} {W : List Nat} (h : SegRep w sb bb cap cs W) (off n : Nat) (h1 : off ≤ 8 * W.length) (h2 : n ≤ 8 * W.length - off) :
    Calls Try.prog 45 #[.pointer (some ⟨sb, 0, none⟩), .int .u64 (off : Int), .int .u64 (n : Int)] w fun e w' =>
      (∃ g, e = .returned (.tuple #[.slice (some ⟨g, 0, none⟩) n n, .int .i64 0]) ∧ Byts (fun b => w.heap.size ≤ b) w' (some ⟨g, 0, none⟩) (bytesOf W off n)) ∧ Grow w w' := by
  have hhead := h.head
  have hs := h.small
  have hle := h.le
  have hcp := h.capLe
  have hsb := h.lt
  obtain ⟨i5, hi, hz, hsz, hb⟩ := info_parts info5
  have t1 : decide ((8 * W.length : Int) < off) = false := by simp; omega
  have t2 : decide ((8 * W.length : Int) - off < n) = false := by simp; omega
  go_enter Try.func45, Try.ntmps45
  go_wp2_with (first
    | (go_at_call 58; refine (size_some sb _ _ _ _ hhead (by omega)).mono ?_; rintro e w' ⟨rfl, rfl⟩)
    | (at_make; refine wpList_make_full _ rfl _ _ 30 rfl w.heap.size 5 i5 (.int .u8 0) 1 Try.underlying30 hi hz hsz .u64 .u64 _ _ n rfl rfl (by simp [go_sem]) (by simp [go_sem]) (by rw [hb]; omega) (by unfold maxLen; omega) (Nat.le_refl _) ?_))
  intro w1 hown hg
  rw [toList_madeCells_one] at hown
  have hb1 : Below w.heap.size w w1 := (only_of_grown hg).below (Nat.le_refl _) (fun _ h => by cases h)
  obtain ⟨cur, hbg, hgc, hcap, hcm, hcz, hcur⟩ := own_some hown
  have hh1 : w1.cell? ⟨sb, 0, none⟩ = some (.slice (some ⟨bb, 0, none⟩) (8 * W.length) cap) := by rw [cell_of_heap (Grow.heap hb1 h.seg)]; rfl
  have hsrc : ∀ (j : Nat) (v : Value), (u8s (bytesOf W off n))[j]? = some v → w1.cell? ⟨bb, off + j, none⟩ = some v := by
    intro j v hj
    have hl := (List.getElem?_eq_some_iff.1 hj).1
    rw [u8s_length, bytesOf_length] at hl
    rw [cell_of_heap (Grow.heap hb1 h.bytes), h.cell _ (by omega), ← hj]
    simp [u8s, bytesOf, hl]
  clear hown hcur
  go_wp2_with (with_reducible refine wpList_copy_splice rfl (.tmp 27) (.tmp 33) 30 30 rfl 5 Try.underlying30 (by kernel_rfl) _ _ _ _ _ _ rfl rfl w.heap.size 0 cur.toList 5 hgc (u8s (bytesOf W off n)) ?_ ?_ ?_ (u8s_one _) w.heap.size w hb1 (Nat.le_refl _) ?_)
  case refine_1 => rw [u8s_length, bytesOf_length]; simp only [Nat.min_def]; split <;> omega
  case refine_3 => rw [u8s_length, bytesOf_length]; simp; omega
  case refine_2.inl => intro hp; rw [u8s_length, bytesOf_length] at hp; omega
  case refine_2.inr => intro _; exact hsrc
  all_goals
    intro w2 hc2 hb2
    go_wp2
    go_ret2
    refine ⟨⟨w.heap.size, rfl, ?_⟩, hb2⟩
    rw [Byts, bytesOf_length]
    refine Row.of_block hc2.out (Nat.le_refl _) (by rw [u8s_length, bytesOf_length, Nat.mul_one]) fun j u hj => ?_
    have hl := (List.getElem?_eq_some_iff.1 hj).1
    rw [← hj]
    simp only [List.getElem?_toArray, splice, List.take_zero, List.nil_append, Nat.zero_add]
    rw [List.getElem?_append_left hl]
end Go.Proofs.Ck
