/- ClientGoes: the walk. -/
import Derived.Test.YtpakfelekphbmaaDo
namespace Go.Proofs.Ck
open Go Go.RowKit

/-- What going tells, and leaves, together. -/
def Det (f : Nat → Nat) (c : Int) (e : Nat) (g : Nat → Nat) : Prop := detE f c = e ∧ detF f c = g
theorem det_live {f : Nat → Nat} {c : Nat} (hc : c < 8) (h : f (64 + 416 * c) = 1) (h8 : f (64 + 416 * c + 8) = 0) : Det f (c : Int) 0 (upd f (64 + 416 * c) 0) := by
  have h1 : getF f (c : Int) 0 = 1 := get_of hc rfl h
  have h2 : getF f (c : Int) 8 = 0 := get_of hc rfl h8
  unfold Det detE detF
  rw [if_pos (by omega), if_neg (by omega), if_neg (by omega), if_pos ⟨by omega, by omega, h1, h2⟩]
  exact ⟨rfl, setF_of hc rfl⟩
theorem det_busy {f : Nat → Nat} {c : Nat} (hc : c < 8) (h : f (64 + 416 * c) = 1) (h8 : f (64 + 416 * c + 8) ≠ 0) : Det f (c : Int) 11 f := by
  have h1 : getF f (c : Int) 0 = 1 := get_of hc rfl h
  have h2 : getF f (c : Int) 8 = f (64 + 416 * c + 8) := get_of hc rfl rfl
  unfold Det detE detF
  rw [if_pos (by omega), if_neg (by omega), if_pos (by omega), if_neg (by omega)]
  exact ⟨rfl, rfl⟩
theorem det_none {f : Nat → Nat} {c : Nat} (hc : c < 8) (h : f (64 + 416 * c) ≠ 1) : Det f (c : Int) 10 f := by
  have h1 : getF f (c : Int) 0 = f (64 + 416 * c) := get_of hc rfl rfl
  unfold Det detE detF
  rw [if_pos (by omega), if_pos (by omega), if_neg (by omega)]
  exact ⟨rfl, rfl⟩
section
variable {base : Nat} {M0 : Nat → Prop} {w0 w w' : World} {v : Value} {f g : Nat → Nat} {bx : List Bx} {K : World → (Nat → Prop) → Prop}
theorem Law.detachIs (h : Law base M0 w0 w v f bx K) {c : Int} {e : Nat} (ha : Det f c e g) :
    Calls Try.prog 106 #[v, .int .i64 c] w fun e' w' => e' = .returned (.int .i64 (e : Int)) ∧ Law base M0 w0 w' v g bx K := by
  have := h.detach c
  rwa [ha.1, ha.2] at this
theorem Law.pointIs (h : Law base M0 w0 w v f bx K) {c o : Nat} (x : Nat) (hc : c < 8) (hx : x < 18446744073709551616) (ho : 64 + 416 * c + 8 = o) :
    Calls Try.prog 104 #[v, .int .i64 (c : Int), .int .u64 (x : Int)] w fun e w' => e = .returned (.tuple #[]) ∧ Law base M0 w0 w' v (upd f o x) bx K := by
  have := h.point (c : Int) x hx
  rwa [setF_of hc ho] at this
end
theorem attach_bad {w : World} {v : Value} {f : Nat → Nat} (h : TxAny w v f) (c : Int) (hc : ¬ (0 ≤ c ∧ c < 8)) : Calls Try.prog 99 #[v, .int .i64 c] w fun e w' => e = .returned (.int .i64 1) ∧ Grow w w' := by
  have hst := stateIs h (c := c) (x := 0) (by unfold getF; rw [if_neg hc])
  have hs := fun w1 => set_bad w1 v c 0 1 hc
  clear hc
  go_enter Try.func99, Try.ntmps99
  go_wp2_with fail
  refine hst.mono ?_
  rintro e w1 ⟨rfl, hg⟩
  go_wp2_with fail
  refine (show Calls _ _ #[_, _, .int .u64 0, .int .u64 1] _ _ from hs w1).mono ?_
  rintro e w2 ⟨rfl, hg2⟩
  clear hs hst
  go_wp2
  go_ret
  exact ⟨rfl, hg.trans hg2⟩
theorem point_bad (w : World) (v : Value) (c : Int) (x : Nat) (hc : ¬ (0 ≤ c ∧ c < 8)) : Calls Try.prog 104 #[v, .int .i64 c, .int .u64 (x : Int)] w fun e w' => e = .returned (.tuple #[]) ∧ Grow w w' := by
  have hs := set_bad w v c 8 x hc
  clear hc
  go_enter Try.func104, Try.ntmps104
  go_wp2_with fail
  refine (show Calls _ _ #[_, _, .int .u64 8, _] _ _ from hs).mono ?_
  rintro e w1 ⟨rfl, hg⟩
  go_wp2
  go_end0
  exact ⟨rfl, hg⟩

set_option maxRecDepth 100000 in
set_option maxHeartbeats 4000000 in
theorem clientGoes (w : World) (c : Int) (off : Nat) (ho : off < 18446744073709551616) : Calls Try.prog 36 #[.int .i64 c, .int .u64 (off : Int)] w fun e w' => e = .returned (.bool true) ∧ Grow w w' := by
  by_cases hc : 0 ≤ c ∧ c < 8
  · obtain ⟨C, rfl⟩ := Int.eq_ofNat_of_zero_le hc.1
    have hC : C < 8 := by omega
    have t0 : decide ((C : Int) < 0) = false := decide_eq_false (by omega)
    have t1 : decide ((8 : Int) ≤ C) = false := decide_eq_false (by omega)
    clear hc
    go_enter Try.func36, Try.ntmps36
    go_wp2_with fail
    refine (awake8 w).mono ?_
    rintro e w1 ⟨rfl, hg⟩
    go_wp2_with fail
    refine (formed_K (l := []) (A := none) hg Row.empty stable_true trivial fun hl1 => formed100 (c := 0) 4480 (by unfold fits; omega) hl1 (by simp) (fun p hp => by cases hp)).mono ?_
    rintro e w2 ⟨base, p, A', n1, c', B', n2, d', rfl, L2⟩
    have F0 := Lib.hid (fmt_client 4480 C 0 (by omega) hC (by omega))
    clear hg
    rw [show ([] : List (Nat × Nat)).take 60 = [] from rfl] at L2
    generalize fillF 4480 [] = f at L2 F0
    have L3 := L2.alloc #[.slice A' n1 c', .slice B' n2 d'] 67
    clear L2
    go_wp2_with fail
    generalize w2.alloc (Obj.cells #[.slice A' n1 c', .slice B' n2 d'] 67) = w3 at L3 ⊢
    go_wp2_with fail
    refine (L3.attachIs (att_zero hC F0.out)).mono ?_
    rintro e w4 ⟨rfl, L4⟩
    clear L3
    go_wp2_with fail
    refine (L4.pointIs off hC ho rfl).mono ?_
    rintro e w5 ⟨rfl, L5⟩
    clear L4
    by_cases h0 : off = 0
    · subst h0
      go_wp2_with fail
      refine (L5.detachIs (det_live hC (by rw [upd_ne (by omega), upd_same]) (upd_same _ _ _))).mono ?_
      rintro e w6 ⟨rfl, L6⟩
      clear L5
      go_wp2_with fail
      refine (L6.pointIs 0 hC (by omega) rfl).mono ?_
      rintro e w7 ⟨rfl, L7⟩
      clear L6
      go_wp2_with fail
      refine (L7.detachIs (det_none hC (by rw [upd_ne (by omega), upd_same]; omega))).mono ?_
      rintro e w8 ⟨rfl, L8⟩
      clear L7
      go_wp2_with fail
      refine (L8.attachIs (att_zero hC (by rw [upd_ne (by omega), upd_same]))).mono ?_
      rintro e w9 ⟨rfl, L9⟩
      clear L8
      go_wp2_with fail
      refine (L9.read (stateIs L9.any (get_of hC rfl (upd_same _ _ _)))).mono ?_
      rintro e w10 ⟨rfl, L10⟩
      clear L9
      have hg := L10.done
      clear L10
      go_wp2
      go_ret
      exact ⟨rfl, hg⟩
    · have t2 : ((off : Int) != 0) = true := by rw [bne_iff_ne]; omega
      have t3 : ((off : Int) == 0) = false := by rw [beq_eq_false_iff_ne]; omega
      have H0 := Lib.hid h0
      clear h0
      go_wp2_with fail
      refine (L5.detachIs (det_busy hC (by rw [upd_ne (by omega), upd_same]) (by rw [upd_same]; exact H0.out))).mono ?_
      rintro e w6 ⟨rfl, L6⟩
      clear L5
      go_wp2_with fail
      refine (L6.pointIs 0 hC (by omega) rfl).mono ?_
      rintro e w7 ⟨rfl, L7⟩
      clear L6
      go_wp2_with fail
      refine (L7.detachIs (det_live hC (by rw [upd_ne (by omega), upd_ne (by omega), upd_same]) (upd_same _ _ _))).mono ?_
      rintro e w8 ⟨rfl, L8⟩
      clear L7
      go_wp2_with fail
      refine (L8.attachIs (att_zero hC (upd_same _ _ _))).mono ?_
      rintro e w9 ⟨rfl, L9⟩
      clear L8
      go_wp2_with fail
      refine (L9.read (stateIs L9.any (get_of hC rfl (upd_same _ _ _)))).mono ?_
      rintro e w10 ⟨rfl, L10⟩
      clear L9
      have hg := L10.done
      clear L10
      go_wp2
      go_ret
      exact ⟨rfl, hg⟩
  · go_enter Try.func36, Try.ntmps36
    go_wp2_with fail
    refine (awake8 w).mono ?_
    rintro e w1 ⟨rfl, hg⟩
    go_wp2_with fail
    refine (formed_S (l := []) (A := none) hg Row.empty stable_true trivial fun hl1 => formed100 (c := 0) 4480 (by unfold fits; omega) hl1 (by simp) (fun p hp => by cases hp)).mono ?_
    rintro e w2 ⟨base, p, A', n1, c', B', n2, d', rfl, L2⟩
    have hσ : (fillS ⟨fmtW 600 4480, []⟩ (([] : List (Nat × Nat)).take 60)).p.length = 0 := rfl
    have HS := Lib.hid hσ
    clear hg hσ
    generalize fillS ⟨fmtW 600 4480, []⟩ (([] : List (Nat × Nat)).take 60) = σ at L2 HS
    have L3 := L2.alloc #[.slice A' n1 c', .slice B' n2 d'] 67
    clear L2
    go_wp2_with fail
    generalize w2.alloc (Obj.cells #[.slice A' n1 c', .slice B' n2 d'] 67) = w3 at L3 ⊢
    go_wp2_with fail
    refine (L3.read (attach_bad L3.any c hc)).mono ?_
    rintro e w4 ⟨rfl, L4⟩
    clear L3
    go_wp2_with fail
    refine (L4.read (point_bad _ _ c off hc)).mono ?_
    rintro e w5 ⟨rfl, L5⟩
    clear L4
    go_wp2_with fail
    refine (L5.read (detach_bad _ _ c hc)).mono ?_
    rintro e w6 ⟨rfl, L6⟩
    clear L5
    go_wp2_with fail
    refine (L6.read (point_bad _ _ c 0 hc)).mono ?_
    rintro e w7 ⟨rfl, L7⟩
    clear L6
    go_wp2_with fail
    refine (L7.read (detach_bad _ _ c hc)).mono ?_
    rintro e w8 ⟨rfl, L8⟩
    clear L7
    go_wp2_with fail
    refine (L8.read (attach_bad L8.any c hc)).mono ?_
    rintro e w9 ⟨rfl, L9⟩
    clear L8
    obtain ⟨M, hM⟩ := L9.tx
    have hp := puts_call hM (by rw [HS.out]; omega)
    rw [HS.out] at hp
    have hg := L9.done
    clear L9 hM HS
    by_cases h0 : c < 0
    · have t0 : decide (c < 0) = true := decide_eq_true h0
      go_wp2_with fail
      refine hp.mono ?_
      rintro e w10 ⟨A, n, rfl, -, hg2⟩
      have hg := hg.trans hg2
      clear hp hg2
      go_wp2
      go_ret
      exact ⟨rfl, hg⟩
    · have t0 : decide (c < 0) = false := decide_eq_false h0
      have t1 : decide (8 ≤ c) = true := decide_eq_true (by omega)
      go_wp2_with fail
      refine hp.mono ?_
      rintro e w10 ⟨A, n, rfl, -, hg2⟩
      have hg := hg.trans hg2
      clear hp hg2
      go_wp2
      go_ret
      exact ⟨rfl, hg⟩
end Go.Proofs.Ck
