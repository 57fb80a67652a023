/- Words that are thought of: the document's: reading. -/
import Derived.Test.YtpakfelekphbmaaRformat
import Derived.Test.YtpakfelekphbmaaTxNew
namespace Go.Proofs.Ck
open Go Go.RowKit

/-- The document's pair of lists. -/
def RAt (S : Nat → Prop) (w : World) (v : Value) (σ : St) : Prop :=
  ∃ A c B d, v = .agg #[.slice A σ.W.length c, .slice B σ.p.length d] ∧ Nums S w A σ.W ∧ Puts S w B σ.p

theorem rold {S : Nat → Prop} {w : World} {A B : Option Addr} {c d n : Nat} {σ : St} (h : Nums S w A σ.W) (off : Nat) (ho : off < 18446744073709551616) (hn : σ.W.length ≤ 17592186044416) :
    Calls Try.prog 190 #[.agg #[.slice A σ.W.length c, .slice B n d], .int .u64 (off : Int)] w fun e w' => e = .returned (.int .u64 ((σ.old off : Nat) : Int)) ∧ Grow w w' := by
  have hg0 : Grow w (w.alloc (.cells #[.slice A σ.W.length c, .slice B n d] 67)) := (Below.refl _ _).alloc (Nat.le_refl _) _
  have h1 := h.grow hg0
  unfold St.old
  by_cases hc : off % 8 = 0 ∧ off / 8 < σ.W.length
  · rw [if_pos hc]
    have hl := rload_ok (c := c) h1 off hc.1 hc.2 (by omega)
    generalize σ.W.getD (off / 8) 0 = V at *
    go_enter Try.func190, Try.ntmps190
    go_wp2_with fail
    refine hl.mono ?_
    rintro e w' ⟨rfl, rfl⟩
    clear hl h1
    go_wp2
    go_ret
    exact ⟨rfl, hg0⟩
  · rw [if_neg hc]
    have hl := rload_bad A σ.W.length c off (w.alloc (.cells #[.slice A σ.W.length c, .slice B n d] 67)) ho hc (by omega)
    go_enter Try.func190, Try.ntmps190
    go_wp2_with fail
    refine hl.mono ?_
    rintro e w' ⟨rfl, rfl⟩
    clear hl h1
    go_wp2
    go_ret
    exact ⟨rfl, hg0⟩

theorem plook_at {p : List (Nat × Nat)} {off i : Nat} (hi : i < p.length) (he : (p.getD i (0, 0)).1 = off) (hb : ∀ j, j < i → (p.getD j (0, 0)).1 ≠ off) : plook p off = some (p.getD i (0, 0)).2 := by
  induction p generalizing i with
  | nil => simp at hi
  | cons q p ih =>
    rw [plook_cons]
    cases i with
    | zero => simp at he; rw [if_pos he]; rfl
    | succ i =>
      have := hb 0 (by omega)
      simp at this
      rw [if_neg this]
      exact ih (by simpa using hi) (by simpa using he) (fun j hj => by simpa using hb (j + 1) (by omega))
theorem plook_out {p : List (Nat × Nat)} {off : Nat} (hb : ∀ j, j < p.length → (p.getD j (0, 0)).1 ≠ off) : plook p off = none := by
  induction p with
  | nil => rfl
  | cons q p ih =>
    have := hb 0 (by simp)
    simp at this
    rw [plook_cons, if_neg this]
    exact ih (fun j hj => by simpa using hb (j + 1) (by simpa using hj))

set_option maxRecDepth 100000 in
set_option maxHeartbeats 1000000 in
theorem rat {S : Nat → Prop} {w : World} {A B : Option Addr} {m c d : Nat} {p : List (Nat × Nat)} (h : Puts S w B p) (off : Nat) (hn : p.length ≤ 17592186044416) :
    Calls Try.prog 189 #[.agg #[.slice A m c, .slice B p.length d], .int .u64 (off : Int)] w fun e w' =>
      ((∃ i : Nat, e = .returned (.int .i64 (i : Int)) ∧ i < p.length ∧ (p.getD i (0, 0)).1 = off ∧ plook p off = some (p.getD i (0, 0)).2) ∨ (e = .returned (.int .i64 (-1)) ∧ plook p off = none)) ∧ Grow w w' := by
  have hg0 : Grow w (w.alloc (.cells #[.slice A m c, .slice B p.length d] 67)) := (Below.refl _ _).alloc (Nat.le_refl _) _
  have hB : (w.alloc (.cells #[.slice A m c, .slice B p.length d] 67)).heap[w.heap.size]? = some (.cells #[.slice A m c, .slice B p.length d] 67 (0, 0)) := World.alloc_heap_new w _
  have h1 := h.grow hg0
  have b1 : (w.alloc (.cells #[.slice A m c, .slice B p.length d] 67)).cell? ⟨w.heap.size, 1, none⟩ = some (.slice B p.length d) := by rw [cell_of_heap hB]; rfl
  go_enter Try.func189, Try.ntmps189
  go_wp2_with fail
  generalize w.alloc (.cells #[.slice A m c, .slice B p.length d] 67) = w1 at hg0 h1 b1 ⊢
  clear h hB
  go_loop [5] (fun x => ∃ k : Nat, k ≤ p.length ∧ x = .int .i64 (k : Int) ∧ Hid (∀ j, j < k → (p.getD j (0, 0)).1 ≠ off)) (fun x => p.length - (intOf x).toNat)
  case atStart => exact ⟨0, Nat.zero_le _, rfl, Lib.hid (fun j hj => by omega)⟩
  case round =>
    obtain ⟨k, hk, rfl, hj⟩ := hrel
    by_cases hlt : k < p.length
    · obtain ⟨b, o, rfl, _, hc⟩ := h1.pos (by omega) (by omega)
      have hx := hc _ _ (puts_get hlt).1
      clear hc h1
      have g0 : decide ((k : Int) < p.length) = true := decide_eq_true (by omega)
      by_cases he : (p.getD k (0, 0)).1 = off
      · have HR := Lib.hid (plook_at hlt he hj.out)
        have HE := Lib.hid he
        rw [he] at hx
        clear he
        go_wp2
        go_ret
        exact ⟨.inl ⟨k, rfl, hlt, HE.out, HR.out⟩, hg0⟩
      · have t1 : (((p.getD k (0, 0)).1 : Int) == off) = false := by rw [beq_eq_false_iff_ne]; omega
        have HN := Lib.hid he
        clear he
        generalize hV : (p.getD k (0, 0)).1 = V at hx t1
        have HV := Lib.hid hV
        clear hV
        go_wp2
        go_round
        case rel =>
          refine ⟨k + 1, by omega, by go_num, Lib.hid fun j hj' => ?_⟩
          by_cases hjk : j = k
          · subst hjk; exact HN.out
          · exact hj.out j (by omega)
        case measure => simp [intOf]; omega
    · obtain rfl : k = p.length := by omega
      have HR := Lib.hid (plook_out hj.out)
      have g0 : decide ((p.length : Int) < p.length) = false := decide_eq_false (by omega)
      go_wp2
      go_ret
      exact ⟨.inr ⟨rfl, HR.out⟩, hg0⟩

set_option maxRecDepth 100000 in
theorem rload {S S' : Nat → Prop} {w : World} {A B : Option Addr} {c d : Nat} {σ : St} (h : Nums S w A σ.W) (hp : Puts S' w B σ.p) (off : Nat) (ho : off < 18446744073709551616) (hn : σ.W.length ≤ 17592186044416) (hpn : σ.p.length ≤ 17592186044416) :
    Calls Try.prog 157 #[.agg #[.slice A σ.W.length c, .slice B σ.p.length d], .int .u64 (off : Int)] w fun e w' => e = .returned (.int .u64 ((σ.load off : Nat) : Int)) ∧ Grow w w' := by
  have hg0 : Grow w (w.alloc (.cells #[.slice A σ.W.length c, .slice B σ.p.length d] 67)) := (Below.refl _ _).alloc (Nat.le_refl _) _
  have hB : (w.alloc (.cells #[.slice A σ.W.length c, .slice B σ.p.length d] 67)).heap[w.heap.size]? = some (.cells #[.slice A σ.W.length c, .slice B σ.p.length d] 67 (0, 0)) := World.alloc_heap_new w _
  have h1 := h.grow hg0
  have hp1 := hp.grow hg0
  have HL : Hid (σ.load off = (plook σ.p off).getD (σ.old off)) := Lib.hid rfl
  clear h hp
  generalize hLd : σ.load off = L at HL
  clear hLd
  have a0 : (w.alloc (.cells #[.slice A σ.W.length c, .slice B σ.p.length d] 67)).cell? ⟨w.heap.size, 0, none⟩ = some (.slice A σ.W.length c) := by rw [cell_of_heap hB]; rfl
  have a1 : (w.alloc (.cells #[.slice A σ.W.length c, .slice B σ.p.length d] 67)).cell? ⟨w.heap.size, 1, none⟩ = some (.slice B σ.p.length d) := by rw [cell_of_heap hB]; rfl
  go_enter Try.func157, Try.ntmps157
  go_wp2_with fail
  generalize w.alloc (.cells #[.slice A σ.W.length c, .slice B σ.p.length d] 67) = w1 at hg0 hB h1 hp1 a0 a1 ⊢
  refine (rat (m := σ.W.length) (A := A) (c := c) (d := d) hp1 off hpn).mono ?_
  rintro e w2 ⟨hr, hg⟩
  have h2 := h1.grow hg
  have hp2 := hp1.grow hg
  have hB2 := hg.heap hB
  have hg2 := hg0.trans hg
  clear h1 hp1 hB a0 a1 hg0 hg
  have a0 : w2.cell? ⟨w.heap.size, 0, none⟩ = some (.slice A σ.W.length c) := by rw [cell_of_heap hB2]; rfl
  have a1 : w2.cell? ⟨w.heap.size, 1, none⟩ = some (.slice B σ.p.length d) := by rw [cell_of_heap hB2]; rfl
  rcases hr with ⟨i, rfl, hi, -, hl⟩ | ⟨rfl, hl⟩
  · obtain ⟨b, o, rfl, _, hc⟩ := hp2.pos (by omega) (by omega)
    have hx := hc _ _ (puts_get hi).2
    have hL := HL.out
    rw [hl, Option.getD_some] at hL
    rw [← hL, ← Nat.add_assoc] at hx
    clear hL HL hc hp2 h2 hl hB2 a0
    have g0 : decide ((0 : Int) ≤ i) = true := decide_eq_true (by omega)
    go_wp2
    go_ret
    exact ⟨rfl, hg2⟩
  · have hL := HL.out
    rw [hl, Option.getD_none] at hL
    have ho := rold (B := B) (c := c) (d := d) (n := σ.p.length) h2 off ho hn
    rw [← hL] at ho
    clear hL HL hl hp2 h2 hB2
    go_wp2_with fail
    refine ho.mono ?_
    rintro e w3 ⟨rfl, hg3⟩
    go_wp2
    go_ret
    exact ⟨rfl, hg2.trans hg3⟩
end Go.Proofs.Ck
