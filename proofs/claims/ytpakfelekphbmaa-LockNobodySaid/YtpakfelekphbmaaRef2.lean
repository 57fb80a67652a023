/- A part of the proofs of this seat's laws. -/
import Derived.Test.YtpakfelekphbmaaRow
import Derived.Test.YtpakfelekphbmaaStore
namespace Go.Proofs.Ck
open Go Go.RowKit

def u64s (W : List Nat) : List Value := W.map fun (x : Nat) => Value.int .u64 (x : Int)
theorem u64s_length (W : List Nat) : (u64s W).length = W.length := by simp [u64s]
theorem u64s_get {W : List Nat} {i : Nat} (h : i < W.length) : (u64s W)[i]? = some (.int .u64 ((W.getD i 0 : Nat) : Int)) := by
  simp [u64s, List.getD_eq_getElem?_getD, h]
theorem u64s_one (W : List Nat) : ∀ u ∈ u64s W, u.oneCell' = true := by
  intro u hu
  obtain ⟨x, _, rfl⟩ := List.mem_map.1 hu
  rfl

/-- A slice of words. -/
abbrev Nums (S : Nat → Prop) (w : World) (A : Option Addr) (W : List Nat) : Prop := Row S w A W.length 1 (u64s W)

theorem info22 : (Try.prog.info? 22).map (fun i => (i.zero, i.size, i.bytes)) = some (some (.int .u64 0), 1, 8) := by kernel_rfl

set_option maxHeartbeats 400000 in
theorem rin_ok (A : Option Addr) (n c off : Nat) (w : World) (hm : off % 8 = 0) (hlt : off / 8 < n) (hn : n < 9223372036854775808) :
    Calls Try.prog 181 #[.slice A n c, .int .u64 (off : Int)] w fun e w' => e = .returned (.bool true) ∧ w = w' := by
  have h1 : decide (off / 8 < n) = true := decide_eq_true hlt
  go_enter Try.func181, Try.ntmps181
  go_wp2
  all_goals (go_ret; refine ⟨?_, rfl⟩; simp)
  all_goals first | omega | skip

set_option maxHeartbeats 400000 in
theorem rin_bad (A : Option Addr) (n c off : Nat) (w : World) (ho : off < 18446744073709551616) (hm : ¬ (off % 8 = 0 ∧ off / 8 < n)) (hn : n < 9223372036854775808) :
    Calls Try.prog 181 #[.slice A n c, .int .u64 (off : Int)] w fun e w' => e = .returned (.bool false) ∧ w = w' := by
  by_cases h0 : off % 8 = 0
  · have hlt : ¬ off / 8 < n := fun h => hm ⟨h0, h⟩
    go_enter Try.func181, Try.ntmps181
    go_wp2
    all_goals (go_ret; refine ⟨?_, rfl⟩; simp)
    all_goals first | omega | skip
  · go_enter Try.func181, Try.ntmps181
    go_wp2
    all_goals (go_ret; refine ⟨?_, rfl⟩; simp)
    all_goals first | omega | skip

set_option maxHeartbeats 400000 in
theorem rload_ok {S : Nat → Prop} {A : Option Addr} {c : Nat} {W : List Nat} {w : World} (h : Nums S w A W) (off : Nat) (hm : off % 8 = 0) (hlt : off / 8 < W.length) (hn : W.length < 9223372036854775808) :
    Calls Try.prog 188 #[.slice A W.length c, .int .u64 (off : Int)] w fun e w' => e = .returned (.tuple #[.int .u64 ((W.getD (off / 8) 0 : Nat) : Int), .int .i64 0]) ∧ w = w' := by
  obtain ⟨b, o, rfl, _, hc⟩ := h.pos (by omega) (by omega)
  have hcx := hc (off / 8) _ (u64s_get hlt)
  clear hc h
  generalize W.getD (off / 8) 0 = V at *
  go_enter Try.func188, Try.ntmps188
  go_wp2_with (go_at_call 181; refine (rin_ok _ _ _ off _ hm hlt hn).mono ?_; rintro e w' ⟨rfl, rfl⟩)
  go_ret2
  exact ⟨rfl, rfl⟩

set_option maxHeartbeats 400000 in
theorem rload_bad (A : Option Addr) (n c off : Nat) (w : World) (ho : off < 18446744073709551616) (hm : ¬ (off % 8 = 0 ∧ off / 8 < n)) (hn : n < 9223372036854775808) :
    Calls Try.prog 188 #[.slice A n c, .int .u64 (off : Int)] w fun e w' => e = .returned (.tuple #[.int .u64 0, .int .i64 1]) ∧ w = w' := by
  go_enter Try.func188, Try.ntmps188
  go_wp2_with (go_at_call 181; refine (rin_bad _ _ _ off _ ho hm hn).mono ?_; rintro e w' ⟨rfl, rfl⟩)
  go_ret2
  exact ⟨rfl, rfl⟩

set_option maxHeartbeats 400000 in
theorem rstore_bad (A : Option Addr) (n c off v : Nat) (w : World) (ho : off < 18446744073709551616) (hm : ¬ (off % 8 = 0 ∧ off / 8 < n)) (hn : n < 9223372036854775808) :
    Calls Try.prog 141 #[.slice A n c, .int .u64 (off : Int), .int .u64 (v : Int)] w fun e w' => e = .returned (.tuple #[.slice A n c, .int .i64 1]) ∧ w = w' := by
  go_enter Try.func141, Try.ntmps141
  go_wp2_with (go_at_call 181; refine (rin_bad _ _ _ off _ ho hm hn).mono ?_; rintro e w' ⟨rfl, rfl⟩)
  go_ret2
  exact ⟨rfl, rfl⟩

theorem u64s_set (W : List Nat) (i v : Nat) : u64s (W.set i v) = (u64s W).set i (.int .u64 (v : Int)) := by simp [u64s, List.map_set]

set_option maxRecDepth 100000 in
set_option maxHeartbeats 1000000 in
theorem rstore_ok {S : Nat → Prop} {A : Option Addr} {c : Nat} {W : List Nat} {w : World} (h : Nums S w A W) (off v : Nat) (hm : off % 8 = 0) (hlt : off / 8 < W.length) (hn : W.length ≤ 17592186044416) :
    Calls Try.prog 141 #[.slice A W.length c, .int .u64 (off : Int), .int .u64 (v : Int)] w fun e w' =>
      (∃ g c', e = .returned (.tuple #[.slice (some ⟨g, 0, none⟩) W.length c', .int .i64 0]) ∧ Nums (fun b => w.heap.size ≤ b) w' (some ⟨g, 0, none⟩) (W.set (off / 8) v)) ∧ Grow w w' := by
  obtain ⟨b, o, rfl, _, hc⟩ := h.pos (by omega) (by omega)
  obtain ⟨i22, hi, hz, hs, hb⟩ := info_parts info22
  have hg0 : Grow w (w.alloc (Obj.cells #[] 22)) := (Below.refl _ w).alloc (Nat.le_refl _) _
  go_enter Try.func141, Try.ntmps141
  go_wp2_with (first
    | (go_at_call 181; refine (rin_ok _ _ _ off _ hm hlt (by omega)).mono ?_; rintro e w' ⟨rfl, rfl⟩)
    | (at_builtin; refine wpList_append_row (S := S) _ rfl (.tmp 14) (.tmp 15) 27 rfl w.heap.size 22 i22 (.int .u64 0) 1 8 Try.underlying27 hi hz hs hb rfl (by decide) _ 0 [] rfl (World.ownsRow_made w #[] 0 (Nat.le_refl _) (Nat.zero_le _) rfl) _ _ _ (u64s W) rfl (h.grow hg0) (fun x => by cases x) (u64s_one W) (by unfold maxLen; omega) (by omega) (by simp) ?_))
  intro v' w1 hown ho
  replace hown : w1.ownsRow w.heap.size 22 1 v' W.length (u64s W) := by simpa using hown
  have hg1 : Grow w w1 := (Only.below ((Only.of_below hg0).trans ho) (Nat.le_refl _) (fun k hk => by simp [Value.ownBlock] at hk; omega))
  obtain ⟨g, cap, cur, hv, hbg, hgc, hcap, hcm, hcz, hcur⟩ := own_form hown (by omega)
  rw [hv]
  clear hown ho hc h
  have hcx : w1.cell? ⟨g, off / 8, none⟩ = some (.int .u64 ((W.getD (off / 8) 0 : Nat) : Int)) := by
    rw [cell_of_heap hgc]; exact hcur _ _ (u64s_get hlt)
  have hfx : w1.frozen? ⟨g, off / 8, none⟩ = false := frozen_of_heap hgc _
  clear hg0
  have H := Lib.hid hcur; clear hcur
  generalize W.getD (off / 8) 0 = V at hcx
  go_wp2
  go_ret2
  refine ⟨⟨g, cap, rfl, ?_⟩, hg1.setCell hbg _⟩
  have hset := heap_setCell_row (i := off / 8) hgc (.int .u64 (v : Int))
  have hl : (W.set (off / 8) v).length = W.length := by simp
  rw [Nums, hl, u64s_set]
  refine Row.of_block hset hbg (by simp [u64s]) fun j u hj => ?_
  rw [Array.getElem?_setIfInBounds]
  rw [List.getElem?_set] at hj
  by_cases e : off / 8 = j
  · rw [if_pos e] at hj ⊢
    rw [if_pos (by omega)]
    split at hj
    · exact hj
    · cases hj
  · rw [if_neg e] at hj ⊢
    exact H.out j u hj

end Go.Proofs.Ck
