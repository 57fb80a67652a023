/- Are two lists of words the same? -/
import Derived.Test.YtpakfelekphbmaaLawRow
import Derived.Test.YtpakfelekphbmaaEq73
import Derived.Deep.QuietTactic
import Derived.BigQuiet
namespace Go.Proofs.Ck
open Go Go.RowKit

set_option maxRecDepth 100000 in
set_option maxHeartbeats 1000000 in
theorem same_call {S S' : Nat → Prop} {w : World} {A A' : Option Addr} {c c' : Nat} {l l' : List (Nat × Nat)} (h0 : Puts S w A l) (h1 : Puts S' w A' l') (hn : l.length ≤ 17592186044416) :
    Calls Try.prog 91 #[.slice A l.length c, .slice A' l'.length c'] w fun e w' => e = .returned (.bool (decide (l = l'))) ∧ Grow w w' := by
  by_cases hl : l.length = l'.length
  · have h1' : Row S' w A' l.length 2 (puts l') := hl ▸ h1
    rw [← hl]
    have HL := Lib.hid hl
    clear h1 hl
    go_enter Try.func91, Try.ntmps91
    go_wp2
    go_loopw [5] (fun i wr => ∃ k : Nat, k ≤ l.length ∧ i = .int .i64 (k : Int) ∧ Hid (l.take k = l'.take k) ∧ Grow w wr) (fun i _ => l.length - (intOf i).toNat)
    case atStart => exact ⟨0, Nat.zero_le _, rfl, Lib.hid (by simp), Below.refl _ _⟩
    case round =>
      obtain ⟨k, hk, rfl, ht, hg⟩ := hrel
      by_cases hlt : k < l.length
      · have hlt' : k < l'.length := by have := HL.out; omega
        obtain ⟨b, o, rfl, _, hc⟩ := (h0.grow hg).pos (by omega) (by omega)
        obtain ⟨b', o', rfl, _, hc'⟩ := (h1'.grow hg).pos (by omega) (by omega)
        have hx := hc _ _ (puts_get hlt).1
        have hy := hc _ _ (puts_get hlt).2
        have hx' := hc' _ _ (puts_get hlt').1
        have hy' := hc' _ _ (puts_get hlt').2
        rw [← Nat.add_assoc] at hy hy'
        clear hc hc' h0 h1'
        have g0 : decide ((k : Int) < l.length) = true := decide_eq_true (by omega)
        by_cases he : l.getD k (0, 0) = l'.getD k (0, 0)
        · rw [← he] at hx' hy'
          generalize hV : l.getD k (0, 0) = V at hx hx' hy hy' he
          have HE := Lib.hid he; have HV := Lib.hid hV
          clear he hV hlt'
          generalize V.1 = x at hx hx'
          generalize V.2 = y at hy hy'
          have t2 : ((x : Int) == x) = true := by simp
          have t3 : ((y : Int) == y) = true := by simp
          go_wp2
          go_quiet (fail)
          go_wp2
          go_roundw
          case rel =>
            refine ⟨k + 1, by omega, by go_num, Lib.hid ?_, hg.drewN nq⟩
            rw [take_succ_getD' hlt, take_succ_getD' (by have := HL.out; omega), ht.out, HV.out, HE.out]
          case measure => simp [intOf]; omega
        · have HNE : Hid (¬ l = l') := fun e => he (by rw [e])
          generalize l.getD k (0, 0) = V at hx hy he
          generalize l'.getD k (0, 0) = V' at hx' hy' he
          obtain ⟨x, y⟩ := V
          obtain ⟨x', y'⟩ := V'
          simp only at hx hy hx' hy'
          clear hlt'
          by_cases hxx : x = x'
          · subst hxx
            have t2 : ((x : Int) == x) = true := by simp
            have t3 : ((y : Int) == y') = false := by rw [beq_eq_false_iff_ne]; intro e; apply he; congr 1; omega
            clear he
            go_wp2
            go_quiet (fail)
            go_wp2
            go_ret
            exact ⟨by rw [decide_eq_false HNE.out]; rfl, hg.drewN nq⟩
          · have t2 : ((x : Int) == x') = false := by rw [beq_eq_false_iff_ne]; omega
            clear he
            go_wp2
            go_quiet (fail)
            go_wp2
            go_ret
            exact ⟨by rw [decide_eq_false HNE.out]; rfl, hg.drewN nq⟩
      · obtain rfl : k = l.length := by omega
        have g0 : decide ((l.length : Int) < l.length) = false := decide_eq_false (by omega)
        clear h0 h1'
        have e := ht.out
        rw [List.take_length, HL.out, List.take_length] at e
        have HE := Lib.hid e
        clear e
        go_wp2
        go_ret
        exact ⟨by rw [decide_eq_true HE.out]; rfl, hg⟩
  · have t1 : ((l.length : Int) == l'.length) = false := by rw [beq_eq_false_iff_ne]; omega
    have t2 : ((l.length : Int) != l'.length) = true := by rw [bne_iff_ne]; omega
    have hne : ¬ l = l' := fun e => hl (by rw [e])
    rw [decide_eq_false hne]
    clear hne h0 h1
    go_enter Try.func91, Try.ntmps91
    go_wp2
    go_ret
    exact ⟨rfl, Below.refl _ _⟩
end Go.Proofs.Ck
