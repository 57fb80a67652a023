/- Clients, word for word. -/
import Derived.Test.YtpakfelekphbmaaDo
namespace Go.Proofs.Ck
open Go Go.RowKit

/-- What is thought of, with a word of a client's record otherwise. -/
def setS (σ : St) (c : Int) (what x : Nat) : St := if 0 ≤ c ∧ c < 8 then σ.store (64 + 416 * c.toNat + what) x else σ
def attS (σ : St) (c : Int) : St := if getF σ.load c 0 = 0 then setS σ c 0 1 else σ
def detS (σ : St) (c : Int) : St := if 0 ≤ c ∧ c < 8 ∧ getF σ.load c 0 = 1 ∧ getF σ.load c 8 = 0 then setS σ c 0 0 else σ
/-- What is thought of behind a deed. -/
def doS (σ : St) (what c : Int) (off : Nat) : St := if what = 1 then attS σ c else if what = 2 then detS σ c else if what = 3 then setS σ c 0 2 else if what = 4 then setS σ c 0 0 else setS σ c 8 off
theorem setS_W (σ : St) (c : Int) (what x : Nat) : (setS σ c what x).W = σ.W := by unfold setS; split; exact store_W _ _ _; rfl
theorem doS_W (σ : St) (what c : Int) (off : Nat) : (doS σ what c off).W = σ.W := by
  unfold doS attS detS
  (repeat' split) <;> first | rfl | exact setS_W _ _ _ _

section
variable {base : Nat} {M0 : Nat → Prop} {w0 w w' : World} {v : Value} {σ : St} {bx : List Bx} {K : World → (Nat → Prop) → Prop}
theorem Ctx.setw (h : Ctx base M0 w0 w v σ bx K) (hW : σ.W.length = 600) (c : Int) (what x : Nat) (h8 : what % 8 = 0) (hw : what < 416) (hx : x < 18446744073709551616) :
    Calls Try.prog 159 #[v, .int .i64 c, .int .u64 (what : Int), .int .u64 (x : Int)] w fun e w' => e = .returned (.int .i64 ((setE c : Nat) : Int)) ∧ Ctx base M0 w0 w' v (setS σ c what x) bx K := by
  unfold setE setS
  by_cases hc : 0 ≤ c ∧ c < 8
  · rw [if_pos hc, if_pos hc]
    obtain ⟨C, rfl⟩ := Int.eq_ofNat_of_zero_le hc.1
    exact h.write (r := .returned (.int .i64 0)) fun M hM => set_ok hM C what x (by omega) h8 hw hx (by have := puts_few hM; omega)
  · rw [if_neg hc, if_neg hc]
    exact h.read (set_bad w v c what x hc)
theorem Ctx.point (h : Ctx base M0 w0 w v σ bx K) (hW : σ.W.length = 600) (c : Int) (x : Nat) (hx : x < 18446744073709551616) :
    Calls Try.prog 104 #[v, .int .i64 c, .int .u64 (x : Int)] w fun e w' => e = .returned (.tuple #[]) ∧ Ctx base M0 w0 w' v (setS σ c 8 x) bx K := by
  have hs := h.setw hW c 8 x rfl (by omega) hx
  generalize setS σ c 8 x = g at *
  generalize setE c = E at *
  go_enter Try.func104, Try.ntmps104
  go_wp2_with fail
  refine hs.mono ?_
  rintro e w1 ⟨rfl, L1⟩
  clear hs h
  go_wp2
  go_end0
  exact ⟨rfl, L1⟩
theorem Ctx.killA (h : Ctx base M0 w0 w v σ bx K) (hW : σ.W.length = 600) (c : Int) :
    Calls Try.prog 83 #[v, .int .i64 c] w fun e w' => e = .returned (.int .i64 ((setE c : Nat) : Int)) ∧ Ctx base M0 w0 w' v (setS σ c 0 2) bx K := by
  have hs := h.setw hW c 0 2 rfl (by omega) (by omega)
  generalize setS σ c 0 2 = g at *
  generalize setE c = E at *
  go_enter Try.func83, Try.ntmps83
  go_wp2_with fail
  refine hs.mono ?_
  rintro e w1 ⟨rfl, L1⟩
  clear hs h
  go_wp2
  go_ret
  exact ⟨rfl, L1⟩
theorem Ctx.clearA (h : Ctx base M0 w0 w v σ bx K) (hW : σ.W.length = 600) (c : Int) :
    Calls Try.prog 84 #[v, .int .i64 c] w fun e w' => e = .returned (.int .i64 ((setE c : Nat) : Int)) ∧ Ctx base M0 w0 w' v (setS σ c 0 0) bx K := by
  have hs := h.setw hW c 0 0 rfl (by omega) (by omega)
  generalize setS σ c 0 0 = g at *
  generalize setE c = E at *
  go_enter Try.func84, Try.ntmps84
  go_wp2_with fail
  refine hs.mono ?_
  rintro e w1 ⟨rfl, L1⟩
  clear hs h
  go_wp2
  go_ret
  exact ⟨rfl, L1⟩

theorem Ctx.attach (h : Ctx base M0 w0 w v σ bx K) (hW : σ.W.length = 600) (c : Int) :
    Calls Try.prog 99 #[v, .int .i64 c] w fun e w' => e = .returned (.int .i64 ((attE σ.load c : Nat) : Int)) ∧ Ctx base M0 w0 w' v (attS σ c) bx K := by
  have hst := h.read (state_any h.any c)
  unfold attE attS
  generalize hx : getF σ.load c 0 = x at *
  by_cases h0 : x = 0
  · rw [if_pos h0, if_pos h0]
    clear hx
    subst h0
    have hs : ∀ w1, Ctx base M0 w0 w1 v σ bx K → _ := fun w1 (L1 : Ctx base M0 w0 w1 v σ bx K) => L1.setw hW c 0 1 rfl (by omega) (by omega)
    generalize setS σ c 0 1 = g at *
    generalize setE c = E at *
    go_enter Try.func99, Try.ntmps99
    go_wp2_with fail
    refine hst.mono ?_
    rintro e w1 ⟨rfl, L1⟩
    clear h hst
    go_wp2_with fail
    refine (hs _ L1).mono ?_
    rintro e w2 ⟨rfl, L2⟩
    clear hs
    go_wp2
    go_ret
    exact ⟨rfl, L2⟩
  · rw [if_neg h0, if_neg h0]
    have t0 : ((x : Int) == 0) = false := by rw [beq_eq_false_iff_ne]; omega
    by_cases h1 : x = 1
    · rw [if_pos h1]
      clear hx t0
      subst h1
      go_enter Try.func99, Try.ntmps99
      go_wp2_with fail
      refine hst.mono ?_
      rintro e w1 ⟨rfl, L1⟩
      clear h hst
      go_wp2
      go_ret
      exact ⟨rfl, L1⟩
    · rw [if_neg h1]
      have t1 : ((x : Int) == 1) = false := by rw [beq_eq_false_iff_ne]; omega
      clear hx
      go_enter Try.func99, Try.ntmps99
      go_wp2_with fail
      refine hst.mono ?_
      rintro e w1 ⟨rfl, L1⟩
      clear h hst
      go_wp2
      go_ret
      exact ⟨rfl, L1⟩

theorem Ctx.detach (h : Ctx base M0 w0 w v σ bx K) (hW : σ.W.length = 600) (c : Int) :
    Calls Try.prog 106 #[v, .int .i64 c] w fun e w' => e = .returned (.int .i64 ((detE σ.load c : Nat) : Int)) ∧ Ctx base M0 w0 w' v (detS σ c) bx K := by
  unfold detE detS
  by_cases hc : 0 ≤ c ∧ c < 8
  · rw [if_pos hc]
    obtain ⟨C, rfl⟩ := Int.eq_ofNat_of_zero_le hc.1
    have hw1 := word_ok w C 0 (by omega) rfl (by omega)
    have hst := h.read (state_any h.any (C : Int))
    have hhd : ∀ w1, Ctx base M0 w0 w1 v σ bx K → _ := fun w1 (L1 : Ctx base M0 w0 w1 v σ bx K) => L1.read (head_any L1.any (C : Int))
    have hcl : ∀ w1, Ctx base M0 w0 w1 v σ bx K → _ := fun w1 (L1 : Ctx base M0 w0 w1 v σ bx K) => L1.clearA hW (C : Int)
    rw [show setE (C : Int) = 0 from if_pos hc] at hcl
    generalize setS σ (C : Int) 0 0 = g at *
    generalize getF σ.load (C : Int) 8 = y at *
    generalize getF σ.load (C : Int) 0 = x at *
    generalize 64 + 416 * C + 0 = o at *
    by_cases h1 : x = 1
    · subst h1
      rw [if_neg (by omega)]
      by_cases h2 : y = 0
      · subst h2
        rw [if_neg (by omega), if_pos ⟨hc.1, hc.2, rfl, rfl⟩]
        clear hc
        go_enter Try.func106, Try.ntmps106
        go_wp2_with fail
        refine hw1.mono ?_
        rintro e w' ⟨rfl, rfl⟩
        go_wp2_with fail
        refine hst.mono ?_
        rintro e w1 ⟨rfl, L1⟩
        clear h hst
        go_wp2_with fail
        refine (hhd _ L1).mono ?_
        rintro e w2 ⟨rfl, L2⟩
        clear L1 hhd
        go_wp2_with fail
        refine (hcl _ L2).mono ?_
        rintro e w3 ⟨rfl, L3⟩
        clear L2 hcl
        go_wp2
        go_ret
        exact ⟨rfl, L3⟩
      · rw [if_pos h2, if_neg (fun hh => h2 hh.2.2.2)]
        have t0 : ((y : Int) != 0) = true := by rw [bne_iff_ne]; omega
        clear hc
        go_enter Try.func106, Try.ntmps106
        go_wp2_with fail
        refine hw1.mono ?_
        rintro e w' ⟨rfl, rfl⟩
        go_wp2_with fail
        refine hst.mono ?_
        rintro e w1 ⟨rfl, L1⟩
        clear h hst
        go_wp2_with fail
        refine (hhd _ L1).mono ?_
        rintro e w2 ⟨rfl, L2⟩
        clear L1 hhd hcl
        go_wp2
        go_ret
        exact ⟨rfl, L2⟩
    · rw [if_pos h1, if_neg (fun hh => h1 hh.2.2.1)]
      have t0 : ((x : Int) != 1) = true := by rw [bne_iff_ne]; omega
      clear hc
      go_enter Try.func106, Try.ntmps106
      go_wp2_with fail
      refine hw1.mono ?_
      rintro e w' ⟨rfl, rfl⟩
      go_wp2_with fail
      refine hst.mono ?_
      rintro e w1 ⟨rfl, L1⟩
      clear h hst hhd hcl
      go_wp2
      go_ret
      exact ⟨rfl, L1⟩
  · rw [if_neg hc, if_neg (fun hh => hc ⟨hh.1, hh.2.1⟩)]
    exact h.read (detach_bad w v c hc)
set_option maxRecDepth 100000 in
theorem Ctx.deed (h : Ctx base M0 w0 w v σ bx K) (hW : σ.W.length = 600) (what c : Int) (off : Nat) (ho : off < 18446744073709551616) :
    Calls Try.prog 103 #[v, .agg #[.int .i64 what, .int .i64 c, .int .u64 (off : Int)]] w fun e w' => e = .returned (.int .i64 ((doE σ.load what c : Nat) : Int)) ∧ Ctx base M0 w0 w' v (doS σ what c off) bx K := by
  obtain ⟨p, rfl⟩ := h.ptr
  have L0 := h.alloc #[.int .i64 what, .int .i64 c, .int .u64 (off : Int)] 107
  have c0 := L0.cell (List.mem_cons_self ..) 0
  clear h
  unfold doE doS
  by_cases h1 : what = 1
  · subst h1
    rw [if_pos rfl, if_pos rfl]
    have ht := L0.drop1.attach hW c
    clear L0 c0
    generalize attE σ.load c = E at *
    generalize attS σ c = g at *
    go_enter Try.func103, Try.ntmps103
    go_wp2_with fail
    refine ht.mono ?_
    rintro e w1 ⟨rfl, L1⟩
    clear ht
    go_wp2
    go_ret
    exact ⟨rfl, L1⟩
  · rw [if_neg h1, if_neg h1]
    have t1 : (what == 1) = false := by rw [beq_eq_false_iff_ne]; exact h1
    by_cases h2 : what = 2
    · subst h2
      rw [if_pos rfl, if_pos rfl]
      have ht := L0.drop1.detach hW c
      clear L0 c0 h1
      generalize detE σ.load c = E at *
      generalize detS σ c = g at *
      go_enter Try.func103, Try.ntmps103
      go_wp2_with fail
      refine ht.mono ?_
      rintro e w1 ⟨rfl, L1⟩
      clear ht
      go_wp2
      go_ret
      exact ⟨rfl, L1⟩
    · rw [if_neg h2, if_neg h2]
      have t2 : (what == 2) = false := by rw [beq_eq_false_iff_ne]; exact h2
      by_cases h3 : what = 3
      · subst h3
        rw [if_pos (.inl rfl), if_pos rfl]
        have ht := L0.drop1.killA hW c
        clear L0 c0 h1 h2
        generalize setE c = E at *
        generalize setS σ c 0 2 = g at *
        go_enter Try.func103, Try.ntmps103
        go_wp2_with fail
        refine ht.mono ?_
        rintro e w1 ⟨rfl, L1⟩
        clear ht
        go_wp2
        go_ret
        exact ⟨rfl, L1⟩
      · rw [if_neg h3]
        have t3 : (what == 3) = false := by rw [beq_eq_false_iff_ne]; exact h3
        by_cases h4 : what = 4
        · subst h4
          rw [if_pos (.inr rfl), if_pos rfl]
          have ht := L0.drop1.clearA hW c
          clear L0 c0 h1 h2 h3
          generalize setE c = E at *
          generalize setS σ c 0 0 = g at *
          go_enter Try.func103, Try.ntmps103
          go_wp2_with fail
          refine ht.mono ?_
          rintro e w1 ⟨rfl, L1⟩
          clear ht
          go_wp2
          go_ret
          exact ⟨rfl, L1⟩
        · rw [if_neg h4, if_neg (fun h => by rcases h with h | h; exact h3 h; exact h4 h)]
          have t4 : (what == 4) = false := by rw [beq_eq_false_iff_ne]; exact h4
          have ht := L0.drop1.point hW c off ho
          clear L0 c0 h1 h2 h3 h4
          generalize setS σ c 8 off = g at *
          go_enter Try.func103, Try.ntmps103
          go_wp2_with fail
          refine ht.mono ?_
          rintro e w1 ⟨rfl, L1⟩
          clear ht
          go_wp2
          go_ret
          exact ⟨rfl, L1⟩
end
end Go.Proofs.Ck
