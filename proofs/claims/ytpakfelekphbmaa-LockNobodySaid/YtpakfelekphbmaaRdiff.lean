/- A part of the proofs of this seat's laws. -/
import Derived.Test.YtpakfelekphbmaaDiff
import Derived.Deep.QuietTactic
import Derived.BigQuiet
namespace Go.Proofs.Ck
open Go Go.RowKit

theorem Grow.drewN {a b : World} (h : Grow a b) (n : Nat) : Grow a (b.drewN n) := below_drewN h n
theorem take_succ_getD {l : List Nat} {k : Nat} (h : k < l.length) : l.take (k + 1) = l.take k ++ [l.getD k 0] := by
  rw [List.take_succ_eq_append_getElem h, List.getD_eq_getElem?_getD, List.getElem?_eq_getElem h]
  rfl

set_option maxRecDepth 100000 in
set_option maxHeartbeats 2000000 in
theorem rnums {S S' : Nat → Prop} {w : World} {A0 A1 : Option Addr} {c0 c1 : Nat} {W0 W1 : List Nat} (h0 : Nums S w A0 W0) (h1 : Nums S' w A1 W1) (n0 : W0.length ≤ 17592186044416) :
    Calls Try.prog 47 #[.slice A0 W0.length c0, .slice A1 W1.length c1] w fun e w' => e = .returned (.bool (decide (W0 = W1))) ∧ Grow w w' := by
  by_cases hl : W0.length = W1.length
  · have h1' : Row S' w A1 W0.length 1 (u64s W1) := hl ▸ h1
    have hll : W1.length = W0.length := hl.symm
    rw [← hl]
    have HL := Lib.hid hl
    clear h1 hl hll
    go_enter Try.func47, Try.ntmps47
    go_wp2
    go_loopw [5] (fun i wr => ∃ k : Nat, k ≤ W0.length ∧ i = .int .i64 (k : Int) ∧ Hid (W0.take k = W1.take k) ∧ Grow w wr) (fun i _ => W0.length - (intOf i).toNat)
    case atStart => exact ⟨0, Nat.zero_le _, rfl, Lib.hid (by simp), Below.refl _ _⟩
    case round =>
      obtain ⟨k, hk, rfl, ht, hg⟩ := hrel
      by_cases hlt : k < W0.length
      · obtain ⟨b, o, rfl, _, hc⟩ := (h0.grow hg).pos (by omega) (by omega)
        obtain ⟨b', o', rfl, _, hc'⟩ := (h1'.grow hg).pos (by omega) (by omega)
        have hx := hc k _ (u64s_get hlt)
        have hx' := hc' k _ (u64s_get (by have := HL.out; omega))
        clear hc hc'
        by_cases he : W0.getD k 0 = W1.getD k 0
        · rw [← he] at hx'
          generalize hV : W0.getD k 0 = V at hx hx' he
          have HE := Lib.hid he; have HV := Lib.hid hV
          clear he hV h0 h1'
          have t2 : ((V : Int) != V) = false := by simp
          go_wp2
          go_quiet (fail)
          go_wp2
          go_roundw
          case rel =>
            refine ⟨k + 1, by omega, by go_num, Lib.hid ?_, hg.drewN nq⟩
            rw [take_succ_getD hlt, take_succ_getD (by have := HL.out; omega), ht.out, HV.out, HE.out]
          case measure => simp [intOf]; omega
        · have HNE : Hid (¬ W0 = W1) := fun e => he (by rw [e])
          clear h0 h1'
          generalize W0.getD k 0 = V at hx he
          generalize W1.getD k 0 = V' at hx' he
          have t1 : ((V : Int) == V') = false := by rw [beq_eq_false_iff_ne]; omega
          have t2 : ((V : Int) != V') = true := by rw [bne_iff_ne]; omega
          go_wp2
          go_quiet (fail)
          go_wp2
          go_ret
          refine ⟨?_, hg.drewN nq⟩
          rw [decide_eq_false HNE.out]
          rfl
      · obtain rfl : k = W0.length := by omega
        go_wp2
        go_ret
        refine ⟨?_, hg⟩
        have e := ht.out
        rw [List.take_length, HL.out, List.take_length] at e
        rw [decide_eq_true e]
        rfl
  · have t1 : ((W0.length : Int) == W1.length) = false := by rw [beq_eq_false_iff_ne]; omega
    have t2 : ((W0.length : Int) != W1.length) = true := by rw [bne_iff_ne]; omega
    have hne : ¬ W0 = W1 := fun e => hl (by rw [e])
    rw [decide_eq_false hne]
    clear hne h0 h1
    go_enter Try.func47, Try.ntmps47
    go_wp2
    go_ret
    exact ⟨rfl, Below.refl _ _⟩
end Go.Proofs.Ck
