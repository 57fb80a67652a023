/- Clients: a deed. -/
import Derived.Test.YtpakfelekphbmaaAwake8
import Derived.Test.YtpakfelekphbmaaPuts
namespace Go.Proofs.Ck
open Go Go.RowKit

/-- What a deed tells, and leaves. -/
def doE (f : Nat → Nat) (what c : Int) : Nat := if what = 1 then attE f c else if what = 2 then detE f c else if what = 3 ∨ what = 4 then setE c else 0
def doF (f : Nat → Nat) (what c : Int) (off : Nat) : Nat → Nat := if what = 1 then attF f c else if what = 2 then detF f c else if what = 3 then setF f c 0 2 else if what = 4 then setF f c 0 0 else setF f c 8 off

section
variable {base : Nat} {M0 : Nat → Prop} {w0 w w' : World} {v : Value} {f g : Nat → Nat} {bx : List Bx} {K : World → (Nat → Prop) → Prop}
set_option maxRecDepth 100000 in
theorem Law.deed (h : Law base M0 w0 w v f bx K) (what c : Int) (off : Nat) (ho : off < 18446744073709551616) :
    Calls Try.prog 103 #[v, .agg #[.int .i64 what, .int .i64 c, .int .u64 (off : Int)]] w fun e w' => e = .returned (.int .i64 ((doE f what c : Nat) : Int)) ∧ Law base M0 w0 w' v (doF f what c off) bx K := by
  obtain ⟨p, rfl⟩ := h.ptr
  have L0 := h.alloc #[.int .i64 what, .int .i64 c, .int .u64 (off : Int)] 107
  have c0 := L0.cell (List.mem_cons_self ..) 0
  clear h
  unfold doE doF
  by_cases h1 : what = 1
  · subst h1
    rw [if_pos rfl, if_pos rfl]
    have ht := L0.drop1.attach c
    clear L0 c0
    generalize attE f c = E at *
    generalize attF f c = g at *
    go_enter Try.func103, Try.ntmps103
    go_wp2_with fail
    refine ht.mono ?_
    rintro e w1 ⟨rfl, L1⟩
    clear ht
    go_wp2
    go_ret
    exact ⟨rfl, L1⟩
  · rw [if_neg h1, if_neg h1]
    have t1 : (what == 1) = false := by rw [beq_eq_false_iff_ne]; exact h1
    by_cases h2 : what = 2
    · subst h2
      rw [if_pos rfl, if_pos rfl]
      have ht := L0.drop1.detach c
      clear L0 c0 h1
      generalize detE f c = E at *
      generalize detF f c = g at *
      go_enter Try.func103, Try.ntmps103
      go_wp2_with fail
      refine ht.mono ?_
      rintro e w1 ⟨rfl, L1⟩
      clear ht
      go_wp2
      go_ret
      exact ⟨rfl, L1⟩
    · rw [if_neg h2, if_neg h2]
      have t2 : (what == 2) = false := by rw [beq_eq_false_iff_ne]; exact h2
      by_cases h3 : what = 3
      · subst h3
        rw [if_pos (.inl rfl), if_pos rfl]
        have ht := L0.drop1.killA c
        clear L0 c0 h1 h2
        generalize setE c = E at *
        generalize setF f c 0 2 = g at *
        go_enter Try.func103, Try.ntmps103
        go_wp2_with fail
        refine ht.mono ?_
        rintro e w1 ⟨rfl, L1⟩
        clear ht
        go_wp2
        go_ret
        exact ⟨rfl, L1⟩
      · rw [if_neg h3]
        have t3 : (what == 3) = false := by rw [beq_eq_false_iff_ne]; exact h3
        by_cases h4 : what = 4
        · subst h4
          rw [if_pos (.inr rfl), if_pos rfl]
          have ht := L0.drop1.clearA c
          clear L0 c0 h1 h2 h3
          generalize setE c = E at *
          generalize setF f c 0 0 = g at *
          go_enter Try.func103, Try.ntmps103
          go_wp2_with fail
          refine ht.mono ?_
          rintro e w1 ⟨rfl, L1⟩
          clear ht
          go_wp2
          go_ret
          exact ⟨rfl, L1⟩
        · rw [if_neg h4, if_neg (fun h => by rcases h with h | h; exact h3 h; exact h4 h)]
          have t4 : (what == 4) = false := by rw [beq_eq_false_iff_ne]; exact h4
          have ht := L0.drop1.point c off ho
          clear L0 c0 h1 h2 h3 h4
          generalize setF f c 8 off = g at *
          go_enter Try.func103, Try.ntmps103
          go_wp2_with fail
          refine ht.mono ?_
          rintro e w1 ⟨rfl, L1⟩
          clear ht
          go_wp2
          go_ret
          exact ⟨rfl, L1⟩
end

theorem setF_other {f : Nat → Nat} {c d : Int} {what x o : Nat} (h : c ≠ d) (hw : what < 416) (ho : o < 416) : getF (setF f d what x) c o = getF f c o := by
  unfold getF setF
  split
  · split
    · rw [upd_ne (by omega)]
    · rfl
  · rfl
theorem doF_other {f : Nat → Nat} {what c d : Int} {off o : Nat} (h : c ≠ d) (ho : o < 416) : getF (doF f what d off) c o = getF f c o := by
  unfold doF attF detF
  (repeat' split) <;> first | rfl | exact setF_other h (by omega) ho
end Go.Proofs.Ck
