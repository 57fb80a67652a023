/- The ledger: the document's check. -/
import Derived.Test.YtpakfelekphbmaaChk
namespace Go.Proofs.Ck
open Go Go.RowKit

set_option maxRecDepth 100000 in
set_option maxHeartbeats 8000000 in
theorem rcheck_call {S : Nat → Prop} {rv : Value} {f : Nat → Nat} {w : World} {X : Nat → Prop} {A : Option Addr} {n cA : Nat} {l : List Nat} (h : RefF rv f w X) (c : Int) (hn : l.length = n) (hr : Row S w A n 1 (u64s l)) (hx : ∀ a ∈ l, a < 18446744073709551616) (hm : n ≤ 9223372036854775807) :
    Calls Try.prog 110 #[rv, .int .i64 c, .slice A n cA] w fun e w' => e = .returned (.bool (chkB f c l)) ∧ Grow w w' := by
  obtain ⟨RA, rn, rc, RB, rm, rd, rfl⟩ := h.agg
  have hga : Grow w (w.alloc (.cells #[.slice RA rn rc, .slice RB rm rd] 67)) := (Below.refl _ _).alloc (Nat.le_refl _) _
  have hB := World.alloc_heap_new w (.cells #[.slice RA rn rc, .slice RB rm rd] 67)
  have a0 : (w.alloc (.cells #[.slice RA rn rc, .slice RB rm rd] 67)).cell? ⟨w.heap.size, 0, none⟩ = some (.slice RA rn rc) := by rw [cell_of_heap hB]; rfl
  have a1 : (w.alloc (.cells #[.slice RA rn rc, .slice RB rm rd] 67)).cell? ⟨w.heap.size, 1, none⟩ = some (.slice RB rm rd) := by rw [cell_of_heap hB]; rfl
  have hrd := rget_any (h.grow hga) c 8 rfl (by omega)
  have hcell : ∀ {w' : World}, Grow w w' → ∀ j, j < n → ∃ a off, A = some ⟨a, off, none⟩ ∧ w'.cell? ⟨a, off + j, none⟩ = some (.int .u64 ((l.getD j 0 : Nat) : Int)) := fun {w'} hg j hj => by
    obtain ⟨b, o, e, -, hc⟩ := (hr.grow hg).pos (by omega) (by omega)
    exact ⟨b, o, e, hc j _ (u64s_get (by omega))⟩
  have hld := fun w' (hg : Grow (w.alloc (.cells #[.slice RA rn rc, .slice RB rm rd] 67)) w') => (h.grow (hga.trans hg)).load
  obtain ⟨H, hH⟩ : ∃ x, getF f c 8 = x := ⟨_, rfl⟩
  rw [hH] at hrd
  obtain ⟨Y, hY⟩ : ∃ y, l.getD 0 0 = y := ⟨_, rfl⟩
  have hno : H ≠ Y → chkB f c l = false := fun hh => chk_no_head (by rw [hH, hY]; exact hh)
  have hyes : H = Y → (∀ i, i < n → wordsB f l i = true) → chkB f c l = true := fun hh ha => chk_yes (by rw [hH, hY]; exact hh) (by rw [hn]; exact ha)
  have hnw : ∀ i, i < n → wordsB f l i = false → chkB f c l = false := fun i hi hw => chk_no_word (by rw [hn]; exact hi) hw
  have hxl : ∀ j, j < n → l.getD j 0 < 18446744073709551616 := fun j hj => by
    rw [List.getD_eq_getElem?_getD, List.getElem?_eq_getElem (by omega)]
    exact hx _ (List.getElem_mem _)
  obtain ⟨B, hBd⟩ : ∃ b, chkB f c l = b := ⟨_, rfl⟩
  rw [hBd] at hno hyes hnw
  rw [hBd]
  have HN := Lib.hid (⟨hno, hyes, hnw⟩ : _ ∧ _ ∧ _)
  clear hno hyes hnw hBd hH hx h hr
  have hout : ∀ j, n ≤ j → l.getD j 0 = 0 := fun j hj => by rw [List.getD_eq_getElem?_getD, List.getElem?_eq_none (by omega)]; rfl
  by_cases hn0 : n = 0
  · subst hn0
    obtain rfl : Y = 0 := by rw [← hY]; exact hout 0 (Nat.le_refl _)
    have tn : decide ((0 : Int) < ((0 : Nat) : Int)) = false := rfl
    clear hcell hld hxl hout hY hn
    go_enter Try.func110, Try.ntmps110
    go_wp2_with fail
    generalize w.alloc (.cells #[.slice RA rn rc, .slice RB rm rd] 67) = wa at *
    refine (show Calls _ _ #[_, _, .int .u64 8] _ _ from hrd).mono ?_
    rintro e w1 ⟨rfl, hg1⟩
    clear hrd a0 a1
    by_cases hH0 : H = 0
    · have t0 : ((H : Int) != 0) = false := by rw [bne_eq_false_iff_eq]; omega
      have HR := Lib.hid (HN.out.2.1 hH0 (fun i hi => by omega))
      subst hH0
      go_wp2_with fail
      go_loopw [8] (fun i wr => i = .int .i64 0 ∧ Grow wa wr) (fun i _ => 0)
      case atStart => exact ⟨rfl, hg1⟩
      case round =>
        obtain ⟨rfl, hg⟩ := hrel
        go_wp2
        go_ret
        exact ⟨by rw [HR.out]; rfl, hga.trans hg⟩
    · have t0 : ((H : Int) != 0) = true := by rw [bne_iff_ne]; omega
      have HR := Lib.hid (HN.out.1 hH0)
      clear hH0
      go_wp2
      go_ret
      exact ⟨by rw [HR.out]; rfl, hga.trans hg1⟩
  · obtain ⟨b, o, rfl, x0⟩ := hcell hga 0 (by omega)
    have hrc : ∀ {w' : World}, Grow w w' → ∀ j, j < n → w'.cell? ⟨b, o + j, none⟩ = some (.int .u64 ((l.getD j 0 : Nat) : Int)) := fun {w'} hg j hj => by
      obtain ⟨b', o', e, hc⟩ := hcell hg j hj
      cases e
      exact hc
    rw [hY, Nat.add_zero] at x0
    have tn : decide ((0 : Int) < (n : Int)) = true := decide_eq_true (by omega)
    have gn : (0 : Int) < (n : Int) := by omega
    clear hcell hY hn
    go_enter Try.func110, Try.ntmps110
    go_wp2_with fail
    generalize w.alloc (.cells #[.slice RA rn rc, .slice RB rm rd] 67) = wa at *
    refine (show Calls _ _ #[_, _, .int .u64 8] _ _ from hrd).mono ?_
    rintro e w1 ⟨rfl, hg1⟩
    clear hrd a0 a1 x0
    by_cases hHY : H = Y
    · have t0 : ((H : Int) != Y) = false := by rw [bne_eq_false_iff_eq]; omega
      have HE := Lib.hid hHY
      clear hHY
      go_wp2_with fail
      go_loopw [8] (fun i wr => ∃ k : Nat, k ≤ n ∧ i = .int .i64 (k : Int) ∧ Grow wa wr ∧ Hid (∀ j, j < k → wordsB f l j = true)) (fun i _ => n - (intOf i).toNat)
      case atStart => exact ⟨0, Nat.zero_le _, rfl, hg1, Lib.hid fun j hj => by omega⟩
      case round =>
        obtain ⟨k, hk, rfl, hg, HJ⟩ := hrel
        by_cases hlt : k < n
        · have g0 : decide ((k : Int) < n) = true := decide_eq_true (by omega)
          obtain ⟨x, hx⟩ : ∃ x, l.getD k 0 = x := ⟨_, rfl⟩
          have hx64 := hxl k hlt
          have hld1 := fun w' (hg' : Grow wa w') => hld w' hg' ((x + 16) % 18446744073709551616) (Nat.mod_lt _ (by omega))
          have hld2 := fun w' (hg' : Grow wa w') => hld w' hg' ((x + 24) % 18446744073709551616) (Nat.mod_lt _ (by omega))
          have wy := words_yes (f := f) (l := l) (i := k)
          have w1' := words_no1 (f := f) (l := l) (i := k)
          have w2' := words_no2 (f := f) (l := l) (i := k)
          obtain ⟨o16, ho16⟩ : ∃ o, (x + 16) % 18446744073709551616 = o := ⟨_, rfl⟩
          obtain ⟨o24, ho24⟩ : ∃ o, (x + 24) % 18446744073709551616 = o := ⟨_, rfl⟩
          have p16 : IntKind.u64.wrap ((x : Int) + 16) = (o16 : Int) := by rw [IntKind.wrap_u64]; omega
          have p24 : IntKind.u64.wrap ((x : Int) + 24) = (o24 : Int) := by rw [IntKind.wrap_u64]; omega
          have hck : ∀ {w' : World}, Grow wa w' → w'.cell? ⟨b, o + k, none⟩ = some (.int .u64 (x : Int)) := fun {w'} hg' => by have := hrc (hga.trans hg') k hlt; rwa [hx] at this
          have hbx : ∀ {w' : World}, Grow wa w' → w'.cell? ⟨w.heap.size, 0, none⟩ = some (.slice RA rn rc) ∧ w'.cell? ⟨w.heap.size, 1, none⟩ = some (.slice RB rm rd) := fun {w'} hg' => ⟨by rw [cell_of_heap (hg'.heap hB)]; rfl, by rw [cell_of_heap (hg'.heap hB)]; rfl⟩
          rw [hx] at wy w1' w2' hx64
          rw [ho16] at hld1 wy w1'
          rw [ho24] at hld2 wy w2'
          obtain ⟨u, hu⟩ : ∃ x, f o16 = x := ⟨_, rfl⟩
          obtain ⟨v2, hv2⟩ : ∃ x, f o24 = x := ⟨_, rfl⟩
          obtain ⟨y1, hy1⟩ : ∃ x, l.getD (k + 1) 0 = x := ⟨_, rfl⟩
          obtain ⟨y2, hy2⟩ : ∃ x, befZ l k = x := ⟨_, rfl⟩
          rw [hu] at hld1 wy w1'
          rw [hv2] at hld2 wy w2'
          rw [hy1] at wy w1'
          rw [hy2] at wy w2'
          have HW := Lib.hid (⟨wy, w1', w2'⟩ : _ ∧ _ ∧ _)
          have gi0 : (0 : Int) ≤ k := by omega
          have gi1 : (k : Int) < n := by omega
          obtain ⟨k1, hk1⟩ : ∃ j, k + 1 = j := ⟨_, rfl⟩
          obtain ⟨km, hkm⟩ : ∃ j, k - 1 = j := ⟨_, rfl⟩
          have pk1 : IntKind.i64.wrap ((k : Int) + 1) = (k1 : Int) := by rw [IntKind.wrap_i64]; omega
          have xk : wr.cell? ⟨b, o + k, none⟩ = some (.int .u64 (x : Int)) := hck hg
          obtain ⟨b0, b1⟩ := hbx hg
          rw [hk1] at hy1
          clear hx hu hv2 ho16 ho24 hld hxl wy w1' w2'
          by_cases hl1 : k1 < n
          · by_cases hk0 : 0 < k
            · have g2 : decide ((k1 : Int) < (n : Int)) = true := decide_eq_true (by omega)
              have c1 : wr.cell? ⟨b, o + k1, none⟩ = some (.int .u64 (y1 : Int)) := by have := hrc (hga.trans hg) k1 hl1; rwa [hy1] at this
              have gj0 : (0 : Int) ≤ k1 := by omega
              have gj1 : (k1 : Int) < n := by omega
              have g3 : decide ((0 : Int) < (k : Int)) = true := decide_eq_true (by omega)
              have hy2' : l.getD km 0 = y2 := by rw [← hy2, ← hkm]; unfold befZ; rw [if_neg (by omega)]
              have c2 : wr.cell? ⟨b, o + km, none⟩ = some (.int .u64 (y2 : Int)) := by have := hrc (hga.trans hg) km (by omega); rwa [hy2'] at this
              have gm0 : (0 : Int) ≤ km := by omega
              have gm1 : (km : Int) < n := by omega
              have pk2 : IntKind.i64.wrap ((k : Int) - 1) = (km : Int) := by rw [IntKind.wrap_i64]; omega
              clear hy2'
              have HK := Lib.hid hk1
              clear hy1 hy2 hk1 hkm hrc hout
              go_wp2
              refine region_plain (fun w' => (w'.cell? ⟨w.heap.size, 0, none⟩ = some (.slice RA rn rc) ∧ w'.cell? ⟨w.heap.size, 1, none⟩ = some (.slice RB rm rd)) ∧ w'.cell? ⟨b, o + k, none⟩ = some (.int .u64 (x : Int))) (by kernel_rfl) ⟨⟨b0, b1⟩, xk⟩ (fun hHeld => ?_)
              refine wpAnyH_take (i := 0) (v := ?_) rfl (by kernel_rfl) (by kernel_rfl) (by kernel_rfl) (fun _ _ _ h => h) (Or.inl ⟨by first | kernel_rfl | rfl, ?_⟩) (by assumption) ?_
              rotate_left
              · intro w hSw; (try dsimp only at hSw); (try go_split_ands); go_simp; first | done | with_reducible rfl
              try simp only [Act.put, List.getElem_toArray, List.getElem_cons_zero, List.setIfInBounds_toArray, List.set_cons_zero, List.set_cons_succ]
              refine wpAnyH_take (i := 1) (v := ?_) rfl (by kernel_rfl) (by kernel_rfl) (by kernel_rfl) (fun _ _ _ h => h) (Or.inl ⟨by first | kernel_rfl | rfl, ?_⟩) (by assumption) ?_
              rotate_left
              · intro w hSw; (try dsimp only at hSw); (try go_split_ands); go_simp; first | done | with_reducible rfl
              try simp only [Act.put, List.getElem_toArray, List.getElem_cons_succ, List.getElem_cons_zero, List.setIfInBounds_toArray, List.set_cons_zero, List.set_cons_succ]
              refine wpAnyH_take (i := 2) (v := ?_) rfl (by kernel_rfl) (by kernel_rfl) (by kernel_rfl) (fun _ _ _ h => h) (Or.inl ⟨by first | kernel_rfl | rfl, ?_⟩) (by assumption) ?_
              rotate_left
              · intro w hSw; (try dsimp only at hSw); (try go_split_ands); go_simp; first | done | with_reducible rfl
              try simp only [Act.put, List.getElem_toArray, List.getElem_cons_succ, List.getElem_cons_zero, List.setIfInBounds_toArray, List.set_cons_zero, List.set_cons_succ]
              refine wpAnyH_take (i := 3) (v := ?_) rfl (by kernel_rfl) (by kernel_rfl) (by kernel_rfl) (fun _ _ _ h => h) (Or.inl ⟨by first | kernel_rfl | rfl, ?_⟩) (by assumption) ?_
              rotate_left
              · intro w hSw; (try dsimp only at hSw); (try go_split_ands); go_simp; first | done | with_reducible rfl
              try simp only [Act.put, List.getElem_toArray, List.getElem_cons_succ, List.getElem_cons_zero, List.setIfInBounds_toArray, List.set_cons_zero, List.set_cons_succ]
              refine wpAnyH_take (i := 4) (v := ?_) rfl (by kernel_rfl) (by kernel_rfl) (by kernel_rfl) (fun _ _ _ h => h) (Or.inl ⟨by first | kernel_rfl | rfl, ?_⟩) (by assumption) ?_
              rotate_left
              · intro w hSw; (try dsimp only at hSw); (try go_split_ands); go_simp; first | done | with_reducible rfl
              try simp only [Act.put, List.getElem_toArray, List.getElem_cons_succ, List.getElem_cons_zero, List.setIfInBounds_toArray, List.set_cons_zero, List.set_cons_succ]
              refine wpAnyH_take (i := 5) (v := ?_) rfl (by kernel_rfl) (by kernel_rfl) (by kernel_rfl) (fun _ _ _ h => h) (Or.inl ⟨by first | kernel_rfl | rfl, ?_⟩) (by assumption) ?_
              rotate_left
              · intro w hSw; (try dsimp only at hSw); (try go_split_ands); go_simp; first | done | with_reducible rfl
              try simp only [Act.put, List.getElem_toArray, List.getElem_cons_succ, List.getElem_cons_zero, List.setIfInBounds_toArray, List.set_cons_zero, List.set_cons_succ]
              refine wpAnyH_take (i := 7) (v := ?_) rfl (by kernel_rfl) (by kernel_rfl) (by kernel_rfl) (fun _ _ _ h => h) (Or.inl ⟨by first | kernel_rfl | rfl, ?_⟩) (by assumption) ?_
              rotate_left
              · intro w hSw; (try dsimp only at hSw); (try go_split_ands); go_simp; first | done | with_reducible rfl
              try simp only [Act.put, List.getElem_toArray, List.getElem_cons_succ, List.getElem_cons_zero, List.setIfInBounds_toArray, List.set_cons_zero, List.set_cons_succ]
              refine wpAnyH_ready (rs := [6]) (by kernel_rfl) (by simp) ?_
              refine AllReadyH.cons rfl (fun K hK => ?_) AllReadyH.nil
              go_simp
              go_at_call 157
              refine Calls.mono (hld1 _ (Below.drew hg)) ?_
              rintro e w2 ⟨rfl, hg2⟩
              replace hg2 : Grow wa w2 := Grow.trans (b := wr.drew) (Below.drew hg) hg2
              clear hld1
              go_wp2_with fail
              refine hK.out _ _ ?_ (fun hHeld => ?_)
              · exact ⟨hbx hg2, hck hg2⟩
              clear hK K
              try simp only [Act.put, List.getElem_toArray, List.getElem_cons_succ, List.getElem_cons_zero, List.setIfInBounds_toArray, List.set_cons_zero, List.set_cons_succ]
              by_cases e1 : u = y1
              · have t1 : ((u : Int) != y1) = false := by rw [bne_eq_false_iff_eq]; omega
                refine wpAnyH_take (i := 8) (v := ?_) rfl (by kernel_rfl) (by kernel_rfl) (by kernel_rfl) (fun _ _ _ h => h) (Or.inl ⟨by first | kernel_rfl | rfl, ?_⟩) (by assumption) ?_
                rotate_left
                · intro w hSw; (try dsimp only at hSw); (try go_split_ands); go_simp; first | done | with_reducible rfl
                try simp only [Act.put, List.getElem_toArray, List.getElem_cons_succ, List.getElem_cons_zero, List.setIfInBounds_toArray, List.set_cons_zero, List.set_cons_succ]
                refine wpAnyH_take (i := 9) (v := ?_) rfl (by kernel_rfl) (by kernel_rfl) (by kernel_rfl) (fun _ _ _ h => h) (Or.inl ⟨by first | kernel_rfl | rfl, ?_⟩) (by assumption) ?_
                rotate_left
                · intro w hSw; (try dsimp only at hSw); (try go_split_ands); go_simp; first | done | with_reducible rfl
                try simp only [Act.put, List.getElem_toArray, List.getElem_cons_succ, List.getElem_cons_zero, List.setIfInBounds_toArray, List.set_cons_zero, List.set_cons_succ]
                refine wpAnyH_take (i := 10) (v := ?_) rfl (by kernel_rfl) (by kernel_rfl) (by kernel_rfl) (fun _ _ _ h => h) (Or.inl ⟨by first | kernel_rfl | rfl, ?_⟩) (by assumption) ?_
                rotate_left
                · intro w hSw; (try dsimp only at hSw); (try go_split_ands); go_simp; first | done | with_reducible rfl
                try simp only [Act.put, List.getElem_toArray, List.getElem_cons_succ, List.getElem_cons_zero, List.setIfInBounds_toArray, List.set_cons_zero, List.set_cons_succ]
                refine wpAnyH_take (i := 11) (v := ?_) rfl (by kernel_rfl) (by kernel_rfl) (by kernel_rfl) (fun _ _ _ h => h) (Or.inl ⟨by first | kernel_rfl | rfl, ?_⟩) (by assumption) ?_
                rotate_left
                · intro w hSw; (try dsimp only at hSw); (try go_split_ands); go_simp; first | done | with_reducible rfl
                try simp only [Act.put, List.getElem_toArray, List.getElem_cons_succ, List.getElem_cons_zero, List.setIfInBounds_toArray, List.set_cons_zero, List.set_cons_succ]
                refine wpAnyH_take (i := 12) (v := ?_) rfl (by kernel_rfl) (by kernel_rfl) (by kernel_rfl) (fun _ _ _ h => h) (Or.inl ⟨by first | kernel_rfl | rfl, ?_⟩) (by assumption) ?_
                rotate_left
                · intro w hSw; (try dsimp only at hSw); (try go_split_ands); go_simp; first | done | with_reducible rfl
                try simp only [Act.put, List.getElem_toArray, List.getElem_cons_succ, List.getElem_cons_zero, List.setIfInBounds_toArray, List.set_cons_zero, List.set_cons_succ]
                refine wpAnyH_take (i := 13) (v := ?_) rfl (by kernel_rfl) (by kernel_rfl) (by kernel_rfl) (fun _ _ _ h => h) (Or.inl ⟨by first | kernel_rfl | rfl, ?_⟩) (by assumption) ?_
                rotate_left
                · intro w hSw; (try dsimp only at hSw); (try go_split_ands); go_simp; first | done | with_reducible rfl
                try simp only [Act.put, List.getElem_toArray, List.getElem_cons_succ, List.getElem_cons_zero, List.setIfInBounds_toArray, List.set_cons_zero, List.set_cons_succ]
                refine wpAnyH_take (i := 14) (v := ?_) rfl (by kernel_rfl) (by kernel_rfl) (by kernel_rfl) (fun _ _ _ h => h) (Or.inl ⟨by first | kernel_rfl | rfl, ?_⟩) (by assumption) ?_
                rotate_left
                · intro w hSw; (try dsimp only at hSw); (try go_split_ands); go_simp; first | done | with_reducible rfl
                try simp only [Act.put, List.getElem_toArray, List.getElem_cons_succ, List.getElem_cons_zero, List.setIfInBounds_toArray, List.set_cons_zero, List.set_cons_succ]
                refine wpAnyH_take (i := 15) (v := ?_) rfl (by kernel_rfl) (by kernel_rfl) (by kernel_rfl) (fun _ _ _ h => h) (Or.inl ⟨by first | kernel_rfl | rfl, ?_⟩) (by assumption) ?_
                rotate_left
                · intro w hSw; (try dsimp only at hSw); (try go_split_ands); go_simp; first | done | with_reducible rfl
                try simp only [Act.put, List.getElem_toArray, List.getElem_cons_succ, List.getElem_cons_zero, List.setIfInBounds_toArray, List.set_cons_zero, List.set_cons_succ]
                refine wpAnyH_take (i := 17) (v := ?_) rfl (by kernel_rfl) (by kernel_rfl) (by kernel_rfl) (fun _ _ _ h => h) (Or.inl ⟨by first | kernel_rfl | rfl, ?_⟩) (by assumption) ?_
                rotate_left
                · intro w hSw; (try dsimp only at hSw); (try go_split_ands); go_simp; first | done | with_reducible rfl
                try simp only [Act.put, List.getElem_toArray, List.getElem_cons_succ, List.getElem_cons_zero, List.setIfInBounds_toArray, List.set_cons_zero, List.set_cons_succ]
                refine wpAnyH_ready (rs := [16]) (by kernel_rfl) (by simp) ?_
                refine AllReadyH.cons rfl (fun K hK => ?_) AllReadyH.nil
                go_simp
                go_at_call 157
                refine Calls.mono (hld2 _ hg2) ?_
                rintro e w3 ⟨rfl, hg3⟩
                replace hg3 := hg2.trans hg3
                clear hld2
                go_wp2_with fail
                refine hK.out _ _ ?_ (fun hHeld => ?_)
                · exact ⟨hbx hg3, hck hg3⟩
                clear hK K
                try simp only [Act.put, List.getElem_toArray, List.getElem_cons_succ, List.getElem_cons_zero, List.setIfInBounds_toArray, List.set_cons_zero, List.set_cons_succ]
                by_cases e2 : v2 = y2
                · have t2 : ((v2 : Int) != y2) = false := by rw [bne_eq_false_iff_eq]; omega
                  refine wpAnyH_take (i := 18) (v := ?_) rfl (by kernel_rfl) (by kernel_rfl) (by kernel_rfl) (fun _ _ _ h => h) (Or.inl ⟨by first | kernel_rfl | rfl, ?_⟩) (by assumption) ?_
                  rotate_left
                  · intro w hSw; (try dsimp only at hSw); (try go_split_ands); go_simp; first | done | with_reducible rfl
                  try simp only [Act.put, List.getElem_toArray, List.getElem_cons_succ, List.getElem_cons_zero, List.setIfInBounds_toArray, List.set_cons_zero, List.set_cons_succ]
                  refine wpAnyH_take (i := 19) (v := ?_) rfl (by kernel_rfl) (by kernel_rfl) (by kernel_rfl) (fun _ _ _ h => h) (Or.inl ⟨by first | kernel_rfl | rfl, ?_⟩) (by assumption) ?_
                  rotate_left
                  · intro w hSw; (try dsimp only at hSw); (try go_split_ands); go_simp; first | done | with_reducible rfl
                  try simp only [Act.put, List.getElem_toArray, List.getElem_cons_succ, List.getElem_cons_zero, List.setIfInBounds_toArray, List.set_cons_zero, List.set_cons_succ]
                  refine wpAnyH_done (by kernel_rfl) ?_ _
                  refine NoPanic.normal ?_
                  have HR := Lib.hid (HW.out.1 e1 e2)
                  clear e1 e2 hg hg2 hbx hck xk b0 b1
                  go_wp2
                  go_roundw
                  case rel => exact ⟨k + 1, by omega, by rw [HK.out], hg3, Lib.hid fun j hj => by
                    by_cases hjk : j = k
                    · subst hjk; exact HR.out
                    · exact HJ.out j (by omega)⟩
                  case measure => (have hkk := HK.out); simp [intOf]; omega
                · have t2 : ((v2 : Int) != y2) = true := by rw [bne_iff_ne]; omega
                  refine wpAnyH_take (i := 18) (v := ?_) rfl (by kernel_rfl) (by kernel_rfl) (by kernel_rfl) (fun _ _ _ h => h) (Or.inl ⟨by first | kernel_rfl | rfl, ?_⟩) (by assumption) ?_
                  rotate_left
                  · intro w hSw; (try dsimp only at hSw); (try go_split_ands); go_simp; first | done | with_reducible rfl
                  try simp only [Act.put, List.getElem_toArray, List.getElem_cons_succ, List.getElem_cons_zero, List.setIfInBounds_toArray, List.set_cons_zero, List.set_cons_succ]
                  refine wpAnyH_take (i := 19) (v := ?_) rfl (by kernel_rfl) (by kernel_rfl) (by kernel_rfl) (fun _ _ _ h => h) (Or.inl ⟨by first | kernel_rfl | rfl, ?_⟩) (by assumption) ?_
                  rotate_left
                  · intro w hSw; (try dsimp only at hSw); (try go_split_ands); go_simp; first | done | with_reducible rfl
                  try simp only [Act.put, List.getElem_toArray, List.getElem_cons_succ, List.getElem_cons_zero, List.setIfInBounds_toArray, List.set_cons_zero, List.set_cons_succ]
                  refine wpAnyH_done (by kernel_rfl) ?_ _
                  refine NoPanic.normal ?_
                  have HR := Lib.hid (HN.out.2.2 k hlt (HW.out.2.2 e2))
                  clear e1 e2 hg hg2 hbx hck xk b0 b1
                  go_wp2
                  go_ret
                  exact ⟨by rw [HR.out]; rfl, hga.trans hg3⟩
              · have t1 : ((u : Int) != y1) = true := by rw [bne_iff_ne]; omega
                refine wpAnyH_take (i := 8) (v := ?_) rfl (by kernel_rfl) (by kernel_rfl) (by kernel_rfl) (fun _ _ _ h => h) (Or.inl ⟨by first | kernel_rfl | rfl, ?_⟩) (by assumption) ?_
                rotate_left
                · intro w hSw; (try dsimp only at hSw); (try go_split_ands); go_simp; first | done | with_reducible rfl
                try simp only [Act.put, List.getElem_toArray, List.getElem_cons_succ, List.getElem_cons_zero, List.setIfInBounds_toArray, List.set_cons_zero, List.set_cons_succ]
                refine wpAnyH_take (i := 9) (v := ?_) rfl (by kernel_rfl) (by kernel_rfl) (by kernel_rfl) (fun _ _ _ h => h) (Or.inl ⟨by first | kernel_rfl | rfl, ?_⟩) (by assumption) ?_
                rotate_left
                · intro w hSw; (try dsimp only at hSw); (try go_split_ands); go_simp; first | done | with_reducible rfl
                try simp only [Act.put, List.getElem_toArray, List.getElem_cons_succ, List.getElem_cons_zero, List.setIfInBounds_toArray, List.set_cons_zero, List.set_cons_succ]
                refine wpAnyH_take (i := 10) (v := undef) rfl (by kernel_rfl) (by kernel_rfl) (by kernel_rfl) (fun _ _ _ h => h) (Or.inr ⟨by first | kernel_rfl | rfl, rfl⟩) (by assumption) ?_
                try simp only [Act.put, List.getElem_toArray, List.getElem_cons_succ, List.getElem_cons_zero, List.setIfInBounds_toArray, List.set_cons_zero, List.set_cons_succ]
                refine wpAnyH_take (i := 11) (v := undef) rfl (by kernel_rfl) (by kernel_rfl) (by kernel_rfl) (fun _ _ _ h => h) (Or.inr ⟨by first | kernel_rfl | rfl, rfl⟩) (by assumption) ?_
                try simp only [Act.put, List.getElem_toArray, List.getElem_cons_succ, List.getElem_cons_zero, List.setIfInBounds_toArray, List.set_cons_zero, List.set_cons_succ]
                refine wpAnyH_take (i := 12) (v := undef) rfl (by kernel_rfl) (by kernel_rfl) (by kernel_rfl) (fun _ _ _ h => h) (Or.inr ⟨by first | kernel_rfl | rfl, rfl⟩) (by assumption) ?_
                try simp only [Act.put, List.getElem_toArray, List.getElem_cons_succ, List.getElem_cons_zero, List.setIfInBounds_toArray, List.set_cons_zero, List.set_cons_succ]
                refine wpAnyH_take (i := 13) (v := undef) rfl (by kernel_rfl) (by kernel_rfl) (by kernel_rfl) (fun _ _ _ h => h) (Or.inr ⟨by first | kernel_rfl | rfl, rfl⟩) (by assumption) ?_
                try simp only [Act.put, List.getElem_toArray, List.getElem_cons_succ, List.getElem_cons_zero, List.setIfInBounds_toArray, List.set_cons_zero, List.set_cons_succ]
                refine wpAnyH_take (i := 14) (v := undef) rfl (by kernel_rfl) (by kernel_rfl) (by kernel_rfl) (fun _ _ _ h => h) (Or.inr ⟨by first | kernel_rfl | rfl, rfl⟩) (by assumption) ?_
                try simp only [Act.put, List.getElem_toArray, List.getElem_cons_succ, List.getElem_cons_zero, List.setIfInBounds_toArray, List.set_cons_zero, List.set_cons_succ]
                refine wpAnyH_take (i := 15) (v := undef) rfl (by kernel_rfl) (by kernel_rfl) (by kernel_rfl) (fun _ _ _ h => h) (Or.inr ⟨by first | kernel_rfl | rfl, rfl⟩) (by assumption) ?_
                try simp only [Act.put, List.getElem_toArray, List.getElem_cons_succ, List.getElem_cons_zero, List.setIfInBounds_toArray, List.set_cons_zero, List.set_cons_succ]
                refine wpAnyH_take (i := 16) (v := undef) rfl (by kernel_rfl) (by kernel_rfl) (by kernel_rfl) (fun _ _ _ h => h) (Or.inr ⟨by first | kernel_rfl | rfl, rfl⟩) (by assumption) ?_
                try simp only [Act.put, List.getElem_toArray, List.getElem_cons_succ, List.getElem_cons_zero, List.setIfInBounds_toArray, List.set_cons_zero, List.set_cons_succ]
                refine wpAnyH_take (i := 17) (v := undef) rfl (by kernel_rfl) (by kernel_rfl) (by kernel_rfl) (fun _ _ _ h => h) (Or.inr ⟨by first | kernel_rfl | rfl, rfl⟩) (by assumption) ?_
                try simp only [Act.put, List.getElem_toArray, List.getElem_cons_succ, List.getElem_cons_zero, List.setIfInBounds_toArray, List.set_cons_zero, List.set_cons_succ]
                refine wpAnyH_take (i := 18) (v := undef) rfl (by kernel_rfl) (by kernel_rfl) (by kernel_rfl) (fun _ _ _ h => h) (Or.inr ⟨by first | kernel_rfl | rfl, rfl⟩) (by assumption) ?_
                try simp only [Act.put, List.getElem_toArray, List.getElem_cons_succ, List.getElem_cons_zero, List.setIfInBounds_toArray, List.set_cons_zero, List.set_cons_succ]
                refine wpAnyH_take (i := 19) (v := ?_) rfl (by kernel_rfl) (by kernel_rfl) (by kernel_rfl) (fun _ _ _ h => h) (Or.inl ⟨by first | kernel_rfl | rfl, ?_⟩) (by assumption) ?_
                rotate_left
                · intro w hSw; (try dsimp only at hSw); (try go_split_ands); go_simp; first | done | with_reducible rfl
                try simp only [Act.put, List.getElem_toArray, List.getElem_cons_succ, List.getElem_cons_zero, List.setIfInBounds_toArray, List.set_cons_zero, List.set_cons_succ]
                refine wpAnyH_done (by kernel_rfl) ?_ _
                refine NoPanic.normal ?_
                have HR := Lib.hid (HN.out.2.2 k hlt (HW.out.2.1 e1))
                clear e1 hg hbx hck xk b0 b1 hld2
                go_wp2
                go_ret
                exact ⟨by rw [HR.out]; rfl, hga.trans hg2⟩
            · have g2 : decide ((k1 : Int) < (n : Int)) = true := decide_eq_true (by omega)
              have c1 : wr.cell? ⟨b, o + k1, none⟩ = some (.int .u64 (y1 : Int)) := by have := hrc (hga.trans hg) k1 hl1; rwa [hy1] at this
              have gj0 : (0 : Int) ≤ k1 := by omega
              have gj1 : (k1 : Int) < n := by omega
              have g3 : decide ((0 : Int) < (k : Int)) = false := decide_eq_false (by omega)
              obtain rfl : y2 = 0 := by rw [← hy2]; unfold befZ; rw [if_pos (by omega)]
              have HK := Lib.hid hk1
              clear hy1 hy2 hk1 hkm hrc hout
              go_wp2
              refine region_plain (fun w' => (w'.cell? ⟨w.heap.size, 0, none⟩ = some (.slice RA rn rc) ∧ w'.cell? ⟨w.heap.size, 1, none⟩ = some (.slice RB rm rd)) ∧ w'.cell? ⟨b, o + k, none⟩ = some (.int .u64 (x : Int))) (by kernel_rfl) ⟨⟨b0, b1⟩, xk⟩ (fun hHeld => ?_)
              refine wpAnyH_take (i := 0) (v := ?_) rfl (by kernel_rfl) (by kernel_rfl) (by kernel_rfl) (fun _ _ _ h => h) (Or.inl ⟨by first | kernel_rfl | rfl, ?_⟩) (by assumption) ?_
              rotate_left
              · intro w hSw; (try dsimp only at hSw); (try go_split_ands); go_simp; first | done | with_reducible rfl
              try simp only [Act.put, List.getElem_toArray, List.getElem_cons_zero, List.setIfInBounds_toArray, List.set_cons_zero, List.set_cons_succ]
              refine wpAnyH_take (i := 1) (v := ?_) rfl (by kernel_rfl) (by kernel_rfl) (by kernel_rfl) (fun _ _ _ h => h) (Or.inl ⟨by first | kernel_rfl | rfl, ?_⟩) (by assumption) ?_
              rotate_left
              · intro w hSw; (try dsimp only at hSw); (try go_split_ands); go_simp; first | done | with_reducible rfl
              try simp only [Act.put, List.getElem_toArray, List.getElem_cons_succ, List.getElem_cons_zero, List.setIfInBounds_toArray, List.set_cons_zero, List.set_cons_succ]
              refine wpAnyH_take (i := 2) (v := ?_) rfl (by kernel_rfl) (by kernel_rfl) (by kernel_rfl) (fun _ _ _ h => h) (Or.inl ⟨by first | kernel_rfl | rfl, ?_⟩) (by assumption) ?_
              rotate_left
              · intro w hSw; (try dsimp only at hSw); (try go_split_ands); go_simp; first | done | with_reducible rfl
              try simp only [Act.put, List.getElem_toArray, List.getElem_cons_succ, List.getElem_cons_zero, List.setIfInBounds_toArray, List.set_cons_zero, List.set_cons_succ]
              refine wpAnyH_take (i := 3) (v := ?_) rfl (by kernel_rfl) (by kernel_rfl) (by kernel_rfl) (fun _ _ _ h => h) (Or.inl ⟨by first | kernel_rfl | rfl, ?_⟩) (by assumption) ?_
              rotate_left
              · intro w hSw; (try dsimp only at hSw); (try go_split_ands); go_simp; first | done | with_reducible rfl
              try simp only [Act.put, List.getElem_toArray, List.getElem_cons_succ, List.getElem_cons_zero, List.setIfInBounds_toArray, List.set_cons_zero, List.set_cons_succ]
              refine wpAnyH_take (i := 4) (v := ?_) rfl (by kernel_rfl) (by kernel_rfl) (by kernel_rfl) (fun _ _ _ h => h) (Or.inl ⟨by first | kernel_rfl | rfl, ?_⟩) (by assumption) ?_
              rotate_left
              · intro w hSw; (try dsimp only at hSw); (try go_split_ands); go_simp; first | done | with_reducible rfl
              try simp only [Act.put, List.getElem_toArray, List.getElem_cons_succ, List.getElem_cons_zero, List.setIfInBounds_toArray, List.set_cons_zero, List.set_cons_succ]
              refine wpAnyH_take (i := 5) (v := ?_) rfl (by kernel_rfl) (by kernel_rfl) (by kernel_rfl) (fun _ _ _ h => h) (Or.inl ⟨by first | kernel_rfl | rfl, ?_⟩) (by assumption) ?_
              rotate_left
              · intro w hSw; (try dsimp only at hSw); (try go_split_ands); go_simp; first | done | with_reducible rfl
              try simp only [Act.put, List.getElem_toArray, List.getElem_cons_succ, List.getElem_cons_zero, List.setIfInBounds_toArray, List.set_cons_zero, List.set_cons_succ]
              refine wpAnyH_take (i := 7) (v := ?_) rfl (by kernel_rfl) (by kernel_rfl) (by kernel_rfl) (fun _ _ _ h => h) (Or.inl ⟨by first | kernel_rfl | rfl, ?_⟩) (by assumption) ?_
              rotate_left
              · intro w hSw; (try dsimp only at hSw); (try go_split_ands); go_simp; first | done | with_reducible rfl
              try simp only [Act.put, List.getElem_toArray, List.getElem_cons_succ, List.getElem_cons_zero, List.setIfInBounds_toArray, List.set_cons_zero, List.set_cons_succ]
              refine wpAnyH_ready (rs := [6]) (by kernel_rfl) (by simp) ?_
              refine AllReadyH.cons rfl (fun K hK => ?_) AllReadyH.nil
              go_simp
              go_at_call 157
              refine Calls.mono (hld1 _ (Below.drew hg)) ?_
              rintro e w2 ⟨rfl, hg2⟩
              replace hg2 : Grow wa w2 := Grow.trans (b := wr.drew) (Below.drew hg) hg2
              clear hld1
              go_wp2_with fail
              refine hK.out _ _ ?_ (fun hHeld => ?_)
              · exact ⟨hbx hg2, hck hg2⟩
              clear hK K
              try simp only [Act.put, List.getElem_toArray, List.getElem_cons_succ, List.getElem_cons_zero, List.setIfInBounds_toArray, List.set_cons_zero, List.set_cons_succ]
              by_cases e1 : u = y1
              · have t1 : ((u : Int) != y1) = false := by rw [bne_eq_false_iff_eq]; omega
                refine wpAnyH_take (i := 8) (v := ?_) rfl (by kernel_rfl) (by kernel_rfl) (by kernel_rfl) (fun _ _ _ h => h) (Or.inl ⟨by first | kernel_rfl | rfl, ?_⟩) (by assumption) ?_
                rotate_left
                · intro w hSw; (try dsimp only at hSw); (try go_split_ands); go_simp; first | done | with_reducible rfl
                try simp only [Act.put, List.getElem_toArray, List.getElem_cons_succ, List.getElem_cons_zero, List.setIfInBounds_toArray, List.set_cons_zero, List.set_cons_succ]
                refine wpAnyH_take (i := 9) (v := ?_) rfl (by kernel_rfl) (by kernel_rfl) (by kernel_rfl) (fun _ _ _ h => h) (Or.inl ⟨by first | kernel_rfl | rfl, ?_⟩) (by assumption) ?_
                rotate_left
                · intro w hSw; (try dsimp only at hSw); (try go_split_ands); go_simp; first | done | with_reducible rfl
                try simp only [Act.put, List.getElem_toArray, List.getElem_cons_succ, List.getElem_cons_zero, List.setIfInBounds_toArray, List.set_cons_zero, List.set_cons_succ]
                refine wpAnyH_take (i := 10) (v := ?_) rfl (by kernel_rfl) (by kernel_rfl) (by kernel_rfl) (fun _ _ _ h => h) (Or.inl ⟨by first | kernel_rfl | rfl, ?_⟩) (by assumption) ?_
                rotate_left
                · intro w hSw; (try dsimp only at hSw); (try go_split_ands); go_simp; first | done | with_reducible rfl
                try simp only [Act.put, List.getElem_toArray, List.getElem_cons_succ, List.getElem_cons_zero, List.setIfInBounds_toArray, List.set_cons_zero, List.set_cons_succ]
                refine wpAnyH_take (i := 11) (v := ?_) rfl (by kernel_rfl) (by kernel_rfl) (by kernel_rfl) (fun _ _ _ h => h) (Or.inl ⟨by first | kernel_rfl | rfl, ?_⟩) (by assumption) ?_
                rotate_left
                · intro w hSw; (try dsimp only at hSw); (try go_split_ands); go_simp; first | done | with_reducible rfl
                try simp only [Act.put, List.getElem_toArray, List.getElem_cons_succ, List.getElem_cons_zero, List.setIfInBounds_toArray, List.set_cons_zero, List.set_cons_succ]
                refine wpAnyH_take (i := 12) (v := ?_) rfl (by kernel_rfl) (by kernel_rfl) (by kernel_rfl) (fun _ _ _ h => h) (Or.inl ⟨by first | kernel_rfl | rfl, ?_⟩) (by assumption) ?_
                rotate_left
                · intro w hSw; (try dsimp only at hSw); (try go_split_ands); go_simp; first | done | with_reducible rfl
                try simp only [Act.put, List.getElem_toArray, List.getElem_cons_succ, List.getElem_cons_zero, List.setIfInBounds_toArray, List.set_cons_zero, List.set_cons_succ]
                refine wpAnyH_take (i := 13) (v := ?_) rfl (by kernel_rfl) (by kernel_rfl) (by kernel_rfl) (fun _ _ _ h => h) (Or.inl ⟨by first | kernel_rfl | rfl, ?_⟩) (by assumption) ?_
                rotate_left
                · intro w hSw; (try dsimp only at hSw); (try go_split_ands); go_simp; first | done | with_reducible rfl
                try simp only [Act.put, List.getElem_toArray, List.getElem_cons_succ, List.getElem_cons_zero, List.setIfInBounds_toArray, List.set_cons_zero, List.set_cons_succ]
                refine wpAnyH_take (i := 14) (v := ?_) rfl (by kernel_rfl) (by kernel_rfl) (by kernel_rfl) (fun _ _ _ h => h) (Or.inl ⟨by first | kernel_rfl | rfl, ?_⟩) (by assumption) ?_
                rotate_left
                · intro w hSw; (try dsimp only at hSw); (try go_split_ands); go_simp; first | done | with_reducible rfl
                try simp only [Act.put, List.getElem_toArray, List.getElem_cons_succ, List.getElem_cons_zero, List.setIfInBounds_toArray, List.set_cons_zero, List.set_cons_succ]
                refine wpAnyH_take (i := 15) (v := ?_) rfl (by kernel_rfl) (by kernel_rfl) (by kernel_rfl) (fun _ _ _ h => h) (Or.inl ⟨by first | kernel_rfl | rfl, ?_⟩) (by assumption) ?_
                rotate_left
                · intro w hSw; (try dsimp only at hSw); (try go_split_ands); go_simp; first | done | with_reducible rfl
                try simp only [Act.put, List.getElem_toArray, List.getElem_cons_succ, List.getElem_cons_zero, List.setIfInBounds_toArray, List.set_cons_zero, List.set_cons_succ]
                refine wpAnyH_take (i := 17) (v := ?_) rfl (by kernel_rfl) (by kernel_rfl) (by kernel_rfl) (fun _ _ _ h => h) (Or.inl ⟨by first | kernel_rfl | rfl, ?_⟩) (by assumption) ?_
                rotate_left
                · intro w hSw; (try dsimp only at hSw); (try go_split_ands); go_simp; first | done | with_reducible rfl
                try simp only [Act.put, List.getElem_toArray, List.getElem_cons_succ, List.getElem_cons_zero, List.setIfInBounds_toArray, List.set_cons_zero, List.set_cons_succ]
                refine wpAnyH_ready (rs := [16]) (by kernel_rfl) (by simp) ?_
                refine AllReadyH.cons rfl (fun K hK => ?_) AllReadyH.nil
                go_simp
                go_at_call 157
                refine Calls.mono (hld2 _ hg2) ?_
                rintro e w3 ⟨rfl, hg3⟩
                replace hg3 := hg2.trans hg3
                clear hld2
                go_wp2_with fail
                refine hK.out _ _ ?_ (fun hHeld => ?_)
                · exact ⟨hbx hg3, hck hg3⟩
                clear hK K
                try simp only [Act.put, List.getElem_toArray, List.getElem_cons_succ, List.getElem_cons_zero, List.setIfInBounds_toArray, List.set_cons_zero, List.set_cons_succ]
                by_cases e2 : v2 = 0
                · have t2 : ((v2 : Int) != 0) = false := by rw [bne_eq_false_iff_eq]; omega
                  refine wpAnyH_take (i := 18) (v := ?_) rfl (by kernel_rfl) (by kernel_rfl) (by kernel_rfl) (fun _ _ _ h => h) (Or.inl ⟨by first | kernel_rfl | rfl, ?_⟩) (by assumption) ?_
                  rotate_left
                  · intro w hSw; (try dsimp only at hSw); (try go_split_ands); go_simp; first | done | with_reducible rfl
                  try simp only [Act.put, List.getElem_toArray, List.getElem_cons_succ, List.getElem_cons_zero, List.setIfInBounds_toArray, List.set_cons_zero, List.set_cons_succ]
                  refine wpAnyH_take (i := 19) (v := ?_) rfl (by kernel_rfl) (by kernel_rfl) (by kernel_rfl) (fun _ _ _ h => h) (Or.inl ⟨by first | kernel_rfl | rfl, ?_⟩) (by assumption) ?_
                  rotate_left
                  · intro w hSw; (try dsimp only at hSw); (try go_split_ands); go_simp; first | done | with_reducible rfl
                  try simp only [Act.put, List.getElem_toArray, List.getElem_cons_succ, List.getElem_cons_zero, List.setIfInBounds_toArray, List.set_cons_zero, List.set_cons_succ]
                  refine wpAnyH_done (by kernel_rfl) ?_ _
                  refine NoPanic.normal ?_
                  have HR := Lib.hid (HW.out.1 e1 e2)
                  clear e1 e2 hg hg2 hbx hck xk b0 b1
                  go_wp2
                  go_roundw
                  case rel => exact ⟨k + 1, by omega, by rw [HK.out], hg3, Lib.hid fun j hj => by
                    by_cases hjk : j = k
                    · subst hjk; exact HR.out
                    · exact HJ.out j (by omega)⟩
                  case measure => (have hkk := HK.out); simp [intOf]; omega
                · have t2 : ((v2 : Int) != 0) = true := by rw [bne_iff_ne]; omega
                  refine wpAnyH_take (i := 18) (v := ?_) rfl (by kernel_rfl) (by kernel_rfl) (by kernel_rfl) (fun _ _ _ h => h) (Or.inl ⟨by first | kernel_rfl | rfl, ?_⟩) (by assumption) ?_
                  rotate_left
                  · intro w hSw; (try dsimp only at hSw); (try go_split_ands); go_simp; first | done | with_reducible rfl
                  try simp only [Act.put, List.getElem_toArray, List.getElem_cons_succ, List.getElem_cons_zero, List.setIfInBounds_toArray, List.set_cons_zero, List.set_cons_succ]
                  refine wpAnyH_take (i := 19) (v := ?_) rfl (by kernel_rfl) (by kernel_rfl) (by kernel_rfl) (fun _ _ _ h => h) (Or.inl ⟨by first | kernel_rfl | rfl, ?_⟩) (by assumption) ?_
                  rotate_left
                  · intro w hSw; (try dsimp only at hSw); (try go_split_ands); go_simp; first | done | with_reducible rfl
                  try simp only [Act.put, List.getElem_toArray, List.getElem_cons_succ, List.getElem_cons_zero, List.setIfInBounds_toArray, List.set_cons_zero, List.set_cons_succ]
                  refine wpAnyH_done (by kernel_rfl) ?_ _
                  refine NoPanic.normal ?_
                  have HR := Lib.hid (HN.out.2.2 k hlt (HW.out.2.2 e2))
                  clear e1 e2 hg hg2 hbx hck xk b0 b1
                  go_wp2
                  go_ret
                  exact ⟨by rw [HR.out]; rfl, hga.trans hg3⟩
              · have t1 : ((u : Int) != y1) = true := by rw [bne_iff_ne]; omega
                refine wpAnyH_take (i := 8) (v := ?_) rfl (by kernel_rfl) (by kernel_rfl) (by kernel_rfl) (fun _ _ _ h => h) (Or.inl ⟨by first | kernel_rfl | rfl, ?_⟩) (by assumption) ?_
                rotate_left
                · intro w hSw; (try dsimp only at hSw); (try go_split_ands); go_simp; first | done | with_reducible rfl
                try simp only [Act.put, List.getElem_toArray, List.getElem_cons_succ, List.getElem_cons_zero, List.setIfInBounds_toArray, List.set_cons_zero, List.set_cons_succ]
                refine wpAnyH_take (i := 9) (v := ?_) rfl (by kernel_rfl) (by kernel_rfl) (by kernel_rfl) (fun _ _ _ h => h) (Or.inl ⟨by first | kernel_rfl | rfl, ?_⟩) (by assumption) ?_
                rotate_left
                · intro w hSw; (try dsimp only at hSw); (try go_split_ands); go_simp; first | done | with_reducible rfl
                try simp only [Act.put, List.getElem_toArray, List.getElem_cons_succ, List.getElem_cons_zero, List.setIfInBounds_toArray, List.set_cons_zero, List.set_cons_succ]
                refine wpAnyH_take (i := 10) (v := undef) rfl (by kernel_rfl) (by kernel_rfl) (by kernel_rfl) (fun _ _ _ h => h) (Or.inr ⟨by first | kernel_rfl | rfl, rfl⟩) (by assumption) ?_
                try simp only [Act.put, List.getElem_toArray, List.getElem_cons_succ, List.getElem_cons_zero, List.setIfInBounds_toArray, List.set_cons_zero, List.set_cons_succ]
                refine wpAnyH_take (i := 11) (v := undef) rfl (by kernel_rfl) (by kernel_rfl) (by kernel_rfl) (fun _ _ _ h => h) (Or.inr ⟨by first | kernel_rfl | rfl, rfl⟩) (by assumption) ?_
                try simp only [Act.put, List.getElem_toArray, List.getElem_cons_succ, List.getElem_cons_zero, List.setIfInBounds_toArray, List.set_cons_zero, List.set_cons_succ]
                refine wpAnyH_take (i := 12) (v := undef) rfl (by kernel_rfl) (by kernel_rfl) (by kernel_rfl) (fun _ _ _ h => h) (Or.inr ⟨by first | kernel_rfl | rfl, rfl⟩) (by assumption) ?_
                try simp only [Act.put, List.getElem_toArray, List.getElem_cons_succ, List.getElem_cons_zero, List.setIfInBounds_toArray, List.set_cons_zero, List.set_cons_succ]
                refine wpAnyH_take (i := 13) (v := undef) rfl (by kernel_rfl) (by kernel_rfl) (by kernel_rfl) (fun _ _ _ h => h) (Or.inr ⟨by first | kernel_rfl | rfl, rfl⟩) (by assumption) ?_
                try simp only [Act.put, List.getElem_toArray, List.getElem_cons_succ, List.getElem_cons_zero, List.setIfInBounds_toArray, List.set_cons_zero, List.set_cons_succ]
                refine wpAnyH_take (i := 14) (v := undef) rfl (by kernel_rfl) (by kernel_rfl) (by kernel_rfl) (fun _ _ _ h => h) (Or.inr ⟨by first | kernel_rfl | rfl, rfl⟩) (by assumption) ?_
                try simp only [Act.put, List.getElem_toArray, List.getElem_cons_succ, List.getElem_cons_zero, List.setIfInBounds_toArray, List.set_cons_zero, List.set_cons_succ]
                refine wpAnyH_take (i := 15) (v := undef) rfl (by kernel_rfl) (by kernel_rfl) (by kernel_rfl) (fun _ _ _ h => h) (Or.inr ⟨by first | kernel_rfl | rfl, rfl⟩) (by assumption) ?_
                try simp only [Act.put, List.getElem_toArray, List.getElem_cons_succ, List.getElem_cons_zero, List.setIfInBounds_toArray, List.set_cons_zero, List.set_cons_succ]
                refine wpAnyH_take (i := 16) (v := undef) rfl (by kernel_rfl) (by kernel_rfl) (by kernel_rfl) (fun _ _ _ h => h) (Or.inr ⟨by first | kernel_rfl | rfl, rfl⟩) (by assumption) ?_
                try simp only [Act.put, List.getElem_toArray, List.getElem_cons_succ, List.getElem_cons_zero, List.setIfInBounds_toArray, List.set_cons_zero, List.set_cons_succ]
                refine wpAnyH_take (i := 17) (v := undef) rfl (by kernel_rfl) (by kernel_rfl) (by kernel_rfl) (fun _ _ _ h => h) (Or.inr ⟨by first | kernel_rfl | rfl, rfl⟩) (by assumption) ?_
                try simp only [Act.put, List.getElem_toArray, List.getElem_cons_succ, List.getElem_cons_zero, List.setIfInBounds_toArray, List.set_cons_zero, List.set_cons_succ]
                refine wpAnyH_take (i := 18) (v := undef) rfl (by kernel_rfl) (by kernel_rfl) (by kernel_rfl) (fun _ _ _ h => h) (Or.inr ⟨by first | kernel_rfl | rfl, rfl⟩) (by assumption) ?_
                try simp only [Act.put, List.getElem_toArray, List.getElem_cons_succ, List.getElem_cons_zero, List.setIfInBounds_toArray, List.set_cons_zero, List.set_cons_succ]
                refine wpAnyH_take (i := 19) (v := ?_) rfl (by kernel_rfl) (by kernel_rfl) (by kernel_rfl) (fun _ _ _ h => h) (Or.inl ⟨by first | kernel_rfl | rfl, ?_⟩) (by assumption) ?_
                rotate_left
                · intro w hSw; (try dsimp only at hSw); (try go_split_ands); go_simp; first | done | with_reducible rfl
                try simp only [Act.put, List.getElem_toArray, List.getElem_cons_succ, List.getElem_cons_zero, List.setIfInBounds_toArray, List.set_cons_zero, List.set_cons_succ]
                refine wpAnyH_done (by kernel_rfl) ?_ _
                refine NoPanic.normal ?_
                have HR := Lib.hid (HN.out.2.2 k hlt (HW.out.2.1 e1))
                clear e1 hg hbx hck xk b0 b1 hld2
                go_wp2
                go_ret
                exact ⟨by rw [HR.out]; rfl, hga.trans hg2⟩
          · by_cases hk0 : 0 < k
            · have g2 : decide ((k1 : Int) < (n : Int)) = false := decide_eq_false (by omega)
              obtain rfl : y1 = 0 := by rw [← hy1]; exact hout k1 (by omega)
              have g3 : decide ((0 : Int) < (k : Int)) = true := decide_eq_true (by omega)
              have hy2' : l.getD km 0 = y2 := by rw [← hy2, ← hkm]; unfold befZ; rw [if_neg (by omega)]
              have c2 : wr.cell? ⟨b, o + km, none⟩ = some (.int .u64 (y2 : Int)) := by have := hrc (hga.trans hg) km (by omega); rwa [hy2'] at this
              have gm0 : (0 : Int) ≤ km := by omega
              have gm1 : (km : Int) < n := by omega
              have pk2 : IntKind.i64.wrap ((k : Int) - 1) = (km : Int) := by rw [IntKind.wrap_i64]; omega
              clear hy2'
              have HK := Lib.hid hk1
              clear hy1 hy2 hk1 hkm hrc hout
              go_wp2
              refine region_plain (fun w' => (w'.cell? ⟨w.heap.size, 0, none⟩ = some (.slice RA rn rc) ∧ w'.cell? ⟨w.heap.size, 1, none⟩ = some (.slice RB rm rd)) ∧ w'.cell? ⟨b, o + k, none⟩ = some (.int .u64 (x : Int))) (by kernel_rfl) ⟨⟨b0, b1⟩, xk⟩ (fun hHeld => ?_)
              refine wpAnyH_take (i := 0) (v := ?_) rfl (by kernel_rfl) (by kernel_rfl) (by kernel_rfl) (fun _ _ _ h => h) (Or.inl ⟨by first | kernel_rfl | rfl, ?_⟩) (by assumption) ?_
              rotate_left
              · intro w hSw; (try dsimp only at hSw); (try go_split_ands); go_simp; first | done | with_reducible rfl
              try simp only [Act.put, List.getElem_toArray, List.getElem_cons_zero, List.setIfInBounds_toArray, List.set_cons_zero, List.set_cons_succ]
              refine wpAnyH_take (i := 1) (v := ?_) rfl (by kernel_rfl) (by kernel_rfl) (by kernel_rfl) (fun _ _ _ h => h) (Or.inl ⟨by first | kernel_rfl | rfl, ?_⟩) (by assumption) ?_
              rotate_left
              · intro w hSw; (try dsimp only at hSw); (try go_split_ands); go_simp; first | done | with_reducible rfl
              try simp only [Act.put, List.getElem_toArray, List.getElem_cons_succ, List.getElem_cons_zero, List.setIfInBounds_toArray, List.set_cons_zero, List.set_cons_succ]
              refine wpAnyH_take (i := 2) (v := ?_) rfl (by kernel_rfl) (by kernel_rfl) (by kernel_rfl) (fun _ _ _ h => h) (Or.inl ⟨by first | kernel_rfl | rfl, ?_⟩) (by assumption) ?_
              rotate_left
              · intro w hSw; (try dsimp only at hSw); (try go_split_ands); go_simp; first | done | with_reducible rfl
              try simp only [Act.put, List.getElem_toArray, List.getElem_cons_succ, List.getElem_cons_zero, List.setIfInBounds_toArray, List.set_cons_zero, List.set_cons_succ]
              refine wpAnyH_take (i := 3) (v := ?_) rfl (by kernel_rfl) (by kernel_rfl) (by kernel_rfl) (fun _ _ _ h => h) (Or.inl ⟨by first | kernel_rfl | rfl, ?_⟩) (by assumption) ?_
              rotate_left
              · intro w hSw; (try dsimp only at hSw); (try go_split_ands); go_simp; first | done | with_reducible rfl
              try simp only [Act.put, List.getElem_toArray, List.getElem_cons_succ, List.getElem_cons_zero, List.setIfInBounds_toArray, List.set_cons_zero, List.set_cons_succ]
              refine wpAnyH_take (i := 4) (v := ?_) rfl (by kernel_rfl) (by kernel_rfl) (by kernel_rfl) (fun _ _ _ h => h) (Or.inl ⟨by first | kernel_rfl | rfl, ?_⟩) (by assumption) ?_
              rotate_left
              · intro w hSw; (try dsimp only at hSw); (try go_split_ands); go_simp; first | done | with_reducible rfl
              try simp only [Act.put, List.getElem_toArray, List.getElem_cons_succ, List.getElem_cons_zero, List.setIfInBounds_toArray, List.set_cons_zero, List.set_cons_succ]
              refine wpAnyH_take (i := 5) (v := ?_) rfl (by kernel_rfl) (by kernel_rfl) (by kernel_rfl) (fun _ _ _ h => h) (Or.inl ⟨by first | kernel_rfl | rfl, ?_⟩) (by assumption) ?_
              rotate_left
              · intro w hSw; (try dsimp only at hSw); (try go_split_ands); go_simp; first | done | with_reducible rfl
              try simp only [Act.put, List.getElem_toArray, List.getElem_cons_succ, List.getElem_cons_zero, List.setIfInBounds_toArray, List.set_cons_zero, List.set_cons_succ]
              refine wpAnyH_take (i := 7) (v := ?_) rfl (by kernel_rfl) (by kernel_rfl) (by kernel_rfl) (fun _ _ _ h => h) (Or.inl ⟨by first | kernel_rfl | rfl, ?_⟩) (by assumption) ?_
              rotate_left
              · intro w hSw; (try dsimp only at hSw); (try go_split_ands); go_simp; first | done | with_reducible rfl
              try simp only [Act.put, List.getElem_toArray, List.getElem_cons_succ, List.getElem_cons_zero, List.setIfInBounds_toArray, List.set_cons_zero, List.set_cons_succ]
              refine wpAnyH_ready (rs := [6]) (by kernel_rfl) (by simp) ?_
              refine AllReadyH.cons rfl (fun K hK => ?_) AllReadyH.nil
              go_simp
              go_at_call 157
              refine Calls.mono (hld1 _ (Below.drew hg)) ?_
              rintro e w2 ⟨rfl, hg2⟩
              replace hg2 : Grow wa w2 := Grow.trans (b := wr.drew) (Below.drew hg) hg2
              clear hld1
              go_wp2_with fail
              refine hK.out _ _ ?_ (fun hHeld => ?_)
              · exact ⟨hbx hg2, hck hg2⟩
              clear hK K
              try simp only [Act.put, List.getElem_toArray, List.getElem_cons_succ, List.getElem_cons_zero, List.setIfInBounds_toArray, List.set_cons_zero, List.set_cons_succ]
              by_cases e1 : u = 0
              · have t1 : ((u : Int) != 0) = false := by rw [bne_eq_false_iff_eq]; omega
                refine wpAnyH_take (i := 8) (v := ?_) rfl (by kernel_rfl) (by kernel_rfl) (by kernel_rfl) (fun _ _ _ h => h) (Or.inl ⟨by first | kernel_rfl | rfl, ?_⟩) (by assumption) ?_
                rotate_left
                · intro w hSw; (try dsimp only at hSw); (try go_split_ands); go_simp; first | done | with_reducible rfl
                try simp only [Act.put, List.getElem_toArray, List.getElem_cons_succ, List.getElem_cons_zero, List.setIfInBounds_toArray, List.set_cons_zero, List.set_cons_succ]
                refine wpAnyH_take (i := 9) (v := ?_) rfl (by kernel_rfl) (by kernel_rfl) (by kernel_rfl) (fun _ _ _ h => h) (Or.inl ⟨by first | kernel_rfl | rfl, ?_⟩) (by assumption) ?_
                rotate_left
                · intro w hSw; (try dsimp only at hSw); (try go_split_ands); go_simp; first | done | with_reducible rfl
                try simp only [Act.put, List.getElem_toArray, List.getElem_cons_succ, List.getElem_cons_zero, List.setIfInBounds_toArray, List.set_cons_zero, List.set_cons_succ]
                refine wpAnyH_take (i := 10) (v := ?_) rfl (by kernel_rfl) (by kernel_rfl) (by kernel_rfl) (fun _ _ _ h => h) (Or.inl ⟨by first | kernel_rfl | rfl, ?_⟩) (by assumption) ?_
                rotate_left
                · intro w hSw; (try dsimp only at hSw); (try go_split_ands); go_simp; first | done | with_reducible rfl
                try simp only [Act.put, List.getElem_toArray, List.getElem_cons_succ, List.getElem_cons_zero, List.setIfInBounds_toArray, List.set_cons_zero, List.set_cons_succ]
                refine wpAnyH_take (i := 11) (v := ?_) rfl (by kernel_rfl) (by kernel_rfl) (by kernel_rfl) (fun _ _ _ h => h) (Or.inl ⟨by first | kernel_rfl | rfl, ?_⟩) (by assumption) ?_
                rotate_left
                · intro w hSw; (try dsimp only at hSw); (try go_split_ands); go_simp; first | done | with_reducible rfl
                try simp only [Act.put, List.getElem_toArray, List.getElem_cons_succ, List.getElem_cons_zero, List.setIfInBounds_toArray, List.set_cons_zero, List.set_cons_succ]
                refine wpAnyH_take (i := 12) (v := ?_) rfl (by kernel_rfl) (by kernel_rfl) (by kernel_rfl) (fun _ _ _ h => h) (Or.inl ⟨by first | kernel_rfl | rfl, ?_⟩) (by assumption) ?_
                rotate_left
                · intro w hSw; (try dsimp only at hSw); (try go_split_ands); go_simp; first | done | with_reducible rfl
                try simp only [Act.put, List.getElem_toArray, List.getElem_cons_succ, List.getElem_cons_zero, List.setIfInBounds_toArray, List.set_cons_zero, List.set_cons_succ]
                refine wpAnyH_take (i := 13) (v := ?_) rfl (by kernel_rfl) (by kernel_rfl) (by kernel_rfl) (fun _ _ _ h => h) (Or.inl ⟨by first | kernel_rfl | rfl, ?_⟩) (by assumption) ?_
                rotate_left
                · intro w hSw; (try dsimp only at hSw); (try go_split_ands); go_simp; first | done | with_reducible rfl
                try simp only [Act.put, List.getElem_toArray, List.getElem_cons_succ, List.getElem_cons_zero, List.setIfInBounds_toArray, List.set_cons_zero, List.set_cons_succ]
                refine wpAnyH_take (i := 14) (v := ?_) rfl (by kernel_rfl) (by kernel_rfl) (by kernel_rfl) (fun _ _ _ h => h) (Or.inl ⟨by first | kernel_rfl | rfl, ?_⟩) (by assumption) ?_
                rotate_left
                · intro w hSw; (try dsimp only at hSw); (try go_split_ands); go_simp; first | done | with_reducible rfl
                try simp only [Act.put, List.getElem_toArray, List.getElem_cons_succ, List.getElem_cons_zero, List.setIfInBounds_toArray, List.set_cons_zero, List.set_cons_succ]
                refine wpAnyH_take (i := 15) (v := ?_) rfl (by kernel_rfl) (by kernel_rfl) (by kernel_rfl) (fun _ _ _ h => h) (Or.inl ⟨by first | kernel_rfl | rfl, ?_⟩) (by assumption) ?_
                rotate_left
                · intro w hSw; (try dsimp only at hSw); (try go_split_ands); go_simp; first | done | with_reducible rfl
                try simp only [Act.put, List.getElem_toArray, List.getElem_cons_succ, List.getElem_cons_zero, List.setIfInBounds_toArray, List.set_cons_zero, List.set_cons_succ]
                refine wpAnyH_take (i := 17) (v := ?_) rfl (by kernel_rfl) (by kernel_rfl) (by kernel_rfl) (fun _ _ _ h => h) (Or.inl ⟨by first | kernel_rfl | rfl, ?_⟩) (by assumption) ?_
                rotate_left
                · intro w hSw; (try dsimp only at hSw); (try go_split_ands); go_simp; first | done | with_reducible rfl
                try simp only [Act.put, List.getElem_toArray, List.getElem_cons_succ, List.getElem_cons_zero, List.setIfInBounds_toArray, List.set_cons_zero, List.set_cons_succ]
                refine wpAnyH_ready (rs := [16]) (by kernel_rfl) (by simp) ?_
                refine AllReadyH.cons rfl (fun K hK => ?_) AllReadyH.nil
                go_simp
                go_at_call 157
                refine Calls.mono (hld2 _ hg2) ?_
                rintro e w3 ⟨rfl, hg3⟩
                replace hg3 := hg2.trans hg3
                clear hld2
                go_wp2_with fail
                refine hK.out _ _ ?_ (fun hHeld => ?_)
                · exact ⟨hbx hg3, hck hg3⟩
                clear hK K
                try simp only [Act.put, List.getElem_toArray, List.getElem_cons_succ, List.getElem_cons_zero, List.setIfInBounds_toArray, List.set_cons_zero, List.set_cons_succ]
                by_cases e2 : v2 = y2
                · have t2 : ((v2 : Int) != y2) = false := by rw [bne_eq_false_iff_eq]; omega
                  refine wpAnyH_take (i := 18) (v := ?_) rfl (by kernel_rfl) (by kernel_rfl) (by kernel_rfl) (fun _ _ _ h => h) (Or.inl ⟨by first | kernel_rfl | rfl, ?_⟩) (by assumption) ?_
                  rotate_left
                  · intro w hSw; (try dsimp only at hSw); (try go_split_ands); go_simp; first | done | with_reducible rfl
                  try simp only [Act.put, List.getElem_toArray, List.getElem_cons_succ, List.getElem_cons_zero, List.setIfInBounds_toArray, List.set_cons_zero, List.set_cons_succ]
                  refine wpAnyH_take (i := 19) (v := ?_) rfl (by kernel_rfl) (by kernel_rfl) (by kernel_rfl) (fun _ _ _ h => h) (Or.inl ⟨by first | kernel_rfl | rfl, ?_⟩) (by assumption) ?_
                  rotate_left
                  · intro w hSw; (try dsimp only at hSw); (try go_split_ands); go_simp; first | done | with_reducible rfl
                  try simp only [Act.put, List.getElem_toArray, List.getElem_cons_succ, List.getElem_cons_zero, List.setIfInBounds_toArray, List.set_cons_zero, List.set_cons_succ]
                  refine wpAnyH_done (by kernel_rfl) ?_ _
                  refine NoPanic.normal ?_
                  have HR := Lib.hid (HW.out.1 e1 e2)
                  clear e1 e2 hg hg2 hbx hck xk b0 b1
                  go_wp2
                  go_roundw
                  case rel => exact ⟨k + 1, by omega, by rw [HK.out], hg3, Lib.hid fun j hj => by
                    by_cases hjk : j = k
                    · subst hjk; exact HR.out
                    · exact HJ.out j (by omega)⟩
                  case measure => (have hkk := HK.out); simp [intOf]; omega
                · have t2 : ((v2 : Int) != y2) = true := by rw [bne_iff_ne]; omega
                  refine wpAnyH_take (i := 18) (v := ?_) rfl (by kernel_rfl) (by kernel_rfl) (by kernel_rfl) (fun _ _ _ h => h) (Or.inl ⟨by first | kernel_rfl | rfl, ?_⟩) (by assumption) ?_
                  rotate_left
                  · intro w hSw; (try dsimp only at hSw); (try go_split_ands); go_simp; first | done | with_reducible rfl
                  try simp only [Act.put, List.getElem_toArray, List.getElem_cons_succ, List.getElem_cons_zero, List.setIfInBounds_toArray, List.set_cons_zero, List.set_cons_succ]
                  refine wpAnyH_take (i := 19) (v := ?_) rfl (by kernel_rfl) (by kernel_rfl) (by kernel_rfl) (fun _ _ _ h => h) (Or.inl ⟨by first | kernel_rfl | rfl, ?_⟩) (by assumption) ?_
                  rotate_left
                  · intro w hSw; (try dsimp only at hSw); (try go_split_ands); go_simp; first | done | with_reducible rfl
                  try simp only [Act.put, List.getElem_toArray, List.getElem_cons_succ, List.getElem_cons_zero, List.setIfInBounds_toArray, List.set_cons_zero, List.set_cons_succ]
                  refine wpAnyH_done (by kernel_rfl) ?_ _
                  refine NoPanic.normal ?_
                  have HR := Lib.hid (HN.out.2.2 k hlt (HW.out.2.2 e2))
                  clear e1 e2 hg hg2 hbx hck xk b0 b1
                  go_wp2
                  go_ret
                  exact ⟨by rw [HR.out]; rfl, hga.trans hg3⟩
              · have t1 : ((u : Int) != 0) = true := by rw [bne_iff_ne]; omega
                refine wpAnyH_take (i := 8) (v := ?_) rfl (by kernel_rfl) (by kernel_rfl) (by kernel_rfl) (fun _ _ _ h => h) (Or.inl ⟨by first | kernel_rfl | rfl, ?_⟩) (by assumption) ?_
                rotate_left
                · intro w hSw; (try dsimp only at hSw); (try go_split_ands); go_simp; first | done | with_reducible rfl
                try simp only [Act.put, List.getElem_toArray, List.getElem_cons_succ, List.getElem_cons_zero, List.setIfInBounds_toArray, List.set_cons_zero, List.set_cons_succ]
                refine wpAnyH_take (i := 9) (v := ?_) rfl (by kernel_rfl) (by kernel_rfl) (by kernel_rfl) (fun _ _ _ h => h) (Or.inl ⟨by first | kernel_rfl | rfl, ?_⟩) (by assumption) ?_
                rotate_left
                · intro w hSw; (try dsimp only at hSw); (try go_split_ands); go_simp; first | done | with_reducible rfl
                try simp only [Act.put, List.getElem_toArray, List.getElem_cons_succ, List.getElem_cons_zero, List.setIfInBounds_toArray, List.set_cons_zero, List.set_cons_succ]
                refine wpAnyH_take (i := 10) (v := undef) rfl (by kernel_rfl) (by kernel_rfl) (by kernel_rfl) (fun _ _ _ h => h) (Or.inr ⟨by first | kernel_rfl | rfl, rfl⟩) (by assumption) ?_
                try simp only [Act.put, List.getElem_toArray, List.getElem_cons_succ, List.getElem_cons_zero, List.setIfInBounds_toArray, List.set_cons_zero, List.set_cons_succ]
                refine wpAnyH_take (i := 11) (v := undef) rfl (by kernel_rfl) (by kernel_rfl) (by kernel_rfl) (fun _ _ _ h => h) (Or.inr ⟨by first | kernel_rfl | rfl, rfl⟩) (by assumption) ?_
                try simp only [Act.put, List.getElem_toArray, List.getElem_cons_succ, List.getElem_cons_zero, List.setIfInBounds_toArray, List.set_cons_zero, List.set_cons_succ]
                refine wpAnyH_take (i := 12) (v := undef) rfl (by kernel_rfl) (by kernel_rfl) (by kernel_rfl) (fun _ _ _ h => h) (Or.inr ⟨by first | kernel_rfl | rfl, rfl⟩) (by assumption) ?_
                try simp only [Act.put, List.getElem_toArray, List.getElem_cons_succ, List.getElem_cons_zero, List.setIfInBounds_toArray, List.set_cons_zero, List.set_cons_succ]
                refine wpAnyH_take (i := 13) (v := undef) rfl (by kernel_rfl) (by kernel_rfl) (by kernel_rfl) (fun _ _ _ h => h) (Or.inr ⟨by first | kernel_rfl | rfl, rfl⟩) (by assumption) ?_
                try simp only [Act.put, List.getElem_toArray, List.getElem_cons_succ, List.getElem_cons_zero, List.setIfInBounds_toArray, List.set_cons_zero, List.set_cons_succ]
                refine wpAnyH_take (i := 14) (v := undef) rfl (by kernel_rfl) (by kernel_rfl) (by kernel_rfl) (fun _ _ _ h => h) (Or.inr ⟨by first | kernel_rfl | rfl, rfl⟩) (by assumption) ?_
                try simp only [Act.put, List.getElem_toArray, List.getElem_cons_succ, List.getElem_cons_zero, List.setIfInBounds_toArray, List.set_cons_zero, List.set_cons_succ]
                refine wpAnyH_take (i := 15) (v := undef) rfl (by kernel_rfl) (by kernel_rfl) (by kernel_rfl) (fun _ _ _ h => h) (Or.inr ⟨by first | kernel_rfl | rfl, rfl⟩) (by assumption) ?_
                try simp only [Act.put, List.getElem_toArray, List.getElem_cons_succ, List.getElem_cons_zero, List.setIfInBounds_toArray, List.set_cons_zero, List.set_cons_succ]
                refine wpAnyH_take (i := 16) (v := undef) rfl (by kernel_rfl) (by kernel_rfl) (by kernel_rfl) (fun _ _ _ h => h) (Or.inr ⟨by first | kernel_rfl | rfl, rfl⟩) (by assumption) ?_
                try simp only [Act.put, List.getElem_toArray, List.getElem_cons_succ, List.getElem_cons_zero, List.setIfInBounds_toArray, List.set_cons_zero, List.set_cons_succ]
                refine wpAnyH_take (i := 17) (v := undef) rfl (by kernel_rfl) (by kernel_rfl) (by kernel_rfl) (fun _ _ _ h => h) (Or.inr ⟨by first | kernel_rfl | rfl, rfl⟩) (by assumption) ?_
                try simp only [Act.put, List.getElem_toArray, List.getElem_cons_succ, List.getElem_cons_zero, List.setIfInBounds_toArray, List.set_cons_zero, List.set_cons_succ]
                refine wpAnyH_take (i := 18) (v := undef) rfl (by kernel_rfl) (by kernel_rfl) (by kernel_rfl) (fun _ _ _ h => h) (Or.inr ⟨by first | kernel_rfl | rfl, rfl⟩) (by assumption) ?_
                try simp only [Act.put, List.getElem_toArray, List.getElem_cons_succ, List.getElem_cons_zero, List.setIfInBounds_toArray, List.set_cons_zero, List.set_cons_succ]
                refine wpAnyH_take (i := 19) (v := ?_) rfl (by kernel_rfl) (by kernel_rfl) (by kernel_rfl) (fun _ _ _ h => h) (Or.inl ⟨by first | kernel_rfl | rfl, ?_⟩) (by assumption) ?_
                rotate_left
                · intro w hSw; (try dsimp only at hSw); (try go_split_ands); go_simp; first | done | with_reducible rfl
                try simp only [Act.put, List.getElem_toArray, List.getElem_cons_succ, List.getElem_cons_zero, List.setIfInBounds_toArray, List.set_cons_zero, List.set_cons_succ]
                refine wpAnyH_done (by kernel_rfl) ?_ _
                refine NoPanic.normal ?_
                have HR := Lib.hid (HN.out.2.2 k hlt (HW.out.2.1 e1))
                clear e1 hg hbx hck xk b0 b1 hld2
                go_wp2
                go_ret
                exact ⟨by rw [HR.out]; rfl, hga.trans hg2⟩
            · have g2 : decide ((k1 : Int) < (n : Int)) = false := decide_eq_false (by omega)
              obtain rfl : y1 = 0 := by rw [← hy1]; exact hout k1 (by omega)
              have g3 : decide ((0 : Int) < (k : Int)) = false := decide_eq_false (by omega)
              obtain rfl : y2 = 0 := by rw [← hy2]; unfold befZ; rw [if_pos (by omega)]
              have HK := Lib.hid hk1
              clear hy1 hy2 hk1 hkm hrc hout
              go_wp2
              refine region_plain (fun w' => (w'.cell? ⟨w.heap.size, 0, none⟩ = some (.slice RA rn rc) ∧ w'.cell? ⟨w.heap.size, 1, none⟩ = some (.slice RB rm rd)) ∧ w'.cell? ⟨b, o + k, none⟩ = some (.int .u64 (x : Int))) (by kernel_rfl) ⟨⟨b0, b1⟩, xk⟩ (fun hHeld => ?_)
              refine wpAnyH_take (i := 0) (v := ?_) rfl (by kernel_rfl) (by kernel_rfl) (by kernel_rfl) (fun _ _ _ h => h) (Or.inl ⟨by first | kernel_rfl | rfl, ?_⟩) (by assumption) ?_
              rotate_left
              · intro w hSw; (try dsimp only at hSw); (try go_split_ands); go_simp; first | done | with_reducible rfl
              try simp only [Act.put, List.getElem_toArray, List.getElem_cons_zero, List.setIfInBounds_toArray, List.set_cons_zero, List.set_cons_succ]
              refine wpAnyH_take (i := 1) (v := ?_) rfl (by kernel_rfl) (by kernel_rfl) (by kernel_rfl) (fun _ _ _ h => h) (Or.inl ⟨by first | kernel_rfl | rfl, ?_⟩) (by assumption) ?_
              rotate_left
              · intro w hSw; (try dsimp only at hSw); (try go_split_ands); go_simp; first | done | with_reducible rfl
              try simp only [Act.put, List.getElem_toArray, List.getElem_cons_succ, List.getElem_cons_zero, List.setIfInBounds_toArray, List.set_cons_zero, List.set_cons_succ]
              refine wpAnyH_take (i := 2) (v := ?_) rfl (by kernel_rfl) (by kernel_rfl) (by kernel_rfl) (fun _ _ _ h => h) (Or.inl ⟨by first | kernel_rfl | rfl, ?_⟩) (by assumption) ?_
              rotate_left
              · intro w hSw; (try dsimp only at hSw); (try go_split_ands); go_simp; first | done | with_reducible rfl
              try simp only [Act.put, List.getElem_toArray, List.getElem_cons_succ, List.getElem_cons_zero, List.setIfInBounds_toArray, List.set_cons_zero, List.set_cons_succ]
              refine wpAnyH_take (i := 3) (v := ?_) rfl (by kernel_rfl) (by kernel_rfl) (by kernel_rfl) (fun _ _ _ h => h) (Or.inl ⟨by first | kernel_rfl | rfl, ?_⟩) (by assumption) ?_
              rotate_left
              · intro w hSw; (try dsimp only at hSw); (try go_split_ands); go_simp; first | done | with_reducible rfl
              try simp only [Act.put, List.getElem_toArray, List.getElem_cons_succ, List.getElem_cons_zero, List.setIfInBounds_toArray, List.set_cons_zero, List.set_cons_succ]
              refine wpAnyH_take (i := 4) (v := ?_) rfl (by kernel_rfl) (by kernel_rfl) (by kernel_rfl) (fun _ _ _ h => h) (Or.inl ⟨by first | kernel_rfl | rfl, ?_⟩) (by assumption) ?_
              rotate_left
              · intro w hSw; (try dsimp only at hSw); (try go_split_ands); go_simp; first | done | with_reducible rfl
              try simp only [Act.put, List.getElem_toArray, List.getElem_cons_succ, List.getElem_cons_zero, List.setIfInBounds_toArray, List.set_cons_zero, List.set_cons_succ]
              refine wpAnyH_take (i := 5) (v := ?_) rfl (by kernel_rfl) (by kernel_rfl) (by kernel_rfl) (fun _ _ _ h => h) (Or.inl ⟨by first | kernel_rfl | rfl, ?_⟩) (by assumption) ?_
              rotate_left
              · intro w hSw; (try dsimp only at hSw); (try go_split_ands); go_simp; first | done | with_reducible rfl
              try simp only [Act.put, List.getElem_toArray, List.getElem_cons_succ, List.getElem_cons_zero, List.setIfInBounds_toArray, List.set_cons_zero, List.set_cons_succ]
              refine wpAnyH_take (i := 7) (v := ?_) rfl (by kernel_rfl) (by kernel_rfl) (by kernel_rfl) (fun _ _ _ h => h) (Or.inl ⟨by first | kernel_rfl | rfl, ?_⟩) (by assumption) ?_
              rotate_left
              · intro w hSw; (try dsimp only at hSw); (try go_split_ands); go_simp; first | done | with_reducible rfl
              try simp only [Act.put, List.getElem_toArray, List.getElem_cons_succ, List.getElem_cons_zero, List.setIfInBounds_toArray, List.set_cons_zero, List.set_cons_succ]
              refine wpAnyH_ready (rs := [6]) (by kernel_rfl) (by simp) ?_
              refine AllReadyH.cons rfl (fun K hK => ?_) AllReadyH.nil
              go_simp
              go_at_call 157
              refine Calls.mono (hld1 _ (Below.drew hg)) ?_
              rintro e w2 ⟨rfl, hg2⟩
              replace hg2 : Grow wa w2 := Grow.trans (b := wr.drew) (Below.drew hg) hg2
              clear hld1
              go_wp2_with fail
              refine hK.out _ _ ?_ (fun hHeld => ?_)
              · exact ⟨hbx hg2, hck hg2⟩
              clear hK K
              try simp only [Act.put, List.getElem_toArray, List.getElem_cons_succ, List.getElem_cons_zero, List.setIfInBounds_toArray, List.set_cons_zero, List.set_cons_succ]
              by_cases e1 : u = 0
              · have t1 : ((u : Int) != 0) = false := by rw [bne_eq_false_iff_eq]; omega
                refine wpAnyH_take (i := 8) (v := ?_) rfl (by kernel_rfl) (by kernel_rfl) (by kernel_rfl) (fun _ _ _ h => h) (Or.inl ⟨by first | kernel_rfl | rfl, ?_⟩) (by assumption) ?_
                rotate_left
                · intro w hSw; (try dsimp only at hSw); (try go_split_ands); go_simp; first | done | with_reducible rfl
                try simp only [Act.put, List.getElem_toArray, List.getElem_cons_succ, List.getElem_cons_zero, List.setIfInBounds_toArray, List.set_cons_zero, List.set_cons_succ]
                refine wpAnyH_take (i := 9) (v := ?_) rfl (by kernel_rfl) (by kernel_rfl) (by kernel_rfl) (fun _ _ _ h => h) (Or.inl ⟨by first | kernel_rfl | rfl, ?_⟩) (by assumption) ?_
                rotate_left
                · intro w hSw; (try dsimp only at hSw); (try go_split_ands); go_simp; first | done | with_reducible rfl
                try simp only [Act.put, List.getElem_toArray, List.getElem_cons_succ, List.getElem_cons_zero, List.setIfInBounds_toArray, List.set_cons_zero, List.set_cons_succ]
                refine wpAnyH_take (i := 10) (v := ?_) rfl (by kernel_rfl) (by kernel_rfl) (by kernel_rfl) (fun _ _ _ h => h) (Or.inl ⟨by first | kernel_rfl | rfl, ?_⟩) (by assumption) ?_
                rotate_left
                · intro w hSw; (try dsimp only at hSw); (try go_split_ands); go_simp; first | done | with_reducible rfl
                try simp only [Act.put, List.getElem_toArray, List.getElem_cons_succ, List.getElem_cons_zero, List.setIfInBounds_toArray, List.set_cons_zero, List.set_cons_succ]
                refine wpAnyH_take (i := 11) (v := ?_) rfl (by kernel_rfl) (by kernel_rfl) (by kernel_rfl) (fun _ _ _ h => h) (Or.inl ⟨by first | kernel_rfl | rfl, ?_⟩) (by assumption) ?_
                rotate_left
                · intro w hSw; (try dsimp only at hSw); (try go_split_ands); go_simp; first | done | with_reducible rfl
                try simp only [Act.put, List.getElem_toArray, List.getElem_cons_succ, List.getElem_cons_zero, List.setIfInBounds_toArray, List.set_cons_zero, List.set_cons_succ]
                refine wpAnyH_take (i := 12) (v := ?_) rfl (by kernel_rfl) (by kernel_rfl) (by kernel_rfl) (fun _ _ _ h => h) (Or.inl ⟨by first | kernel_rfl | rfl, ?_⟩) (by assumption) ?_
                rotate_left
                · intro w hSw; (try dsimp only at hSw); (try go_split_ands); go_simp; first | done | with_reducible rfl
                try simp only [Act.put, List.getElem_toArray, List.getElem_cons_succ, List.getElem_cons_zero, List.setIfInBounds_toArray, List.set_cons_zero, List.set_cons_succ]
                refine wpAnyH_take (i := 13) (v := ?_) rfl (by kernel_rfl) (by kernel_rfl) (by kernel_rfl) (fun _ _ _ h => h) (Or.inl ⟨by first | kernel_rfl | rfl, ?_⟩) (by assumption) ?_
                rotate_left
                · intro w hSw; (try dsimp only at hSw); (try go_split_ands); go_simp; first | done | with_reducible rfl
                try simp only [Act.put, List.getElem_toArray, List.getElem_cons_succ, List.getElem_cons_zero, List.setIfInBounds_toArray, List.set_cons_zero, List.set_cons_succ]
                refine wpAnyH_take (i := 14) (v := ?_) rfl (by kernel_rfl) (by kernel_rfl) (by kernel_rfl) (fun _ _ _ h => h) (Or.inl ⟨by first | kernel_rfl | rfl, ?_⟩) (by assumption) ?_
                rotate_left
                · intro w hSw; (try dsimp only at hSw); (try go_split_ands); go_simp; first | done | with_reducible rfl
                try simp only [Act.put, List.getElem_toArray, List.getElem_cons_succ, List.getElem_cons_zero, List.setIfInBounds_toArray, List.set_cons_zero, List.set_cons_succ]
                refine wpAnyH_take (i := 15) (v := ?_) rfl (by kernel_rfl) (by kernel_rfl) (by kernel_rfl) (fun _ _ _ h => h) (Or.inl ⟨by first | kernel_rfl | rfl, ?_⟩) (by assumption) ?_
                rotate_left
                · intro w hSw; (try dsimp only at hSw); (try go_split_ands); go_simp; first | done | with_reducible rfl
                try simp only [Act.put, List.getElem_toArray, List.getElem_cons_succ, List.getElem_cons_zero, List.setIfInBounds_toArray, List.set_cons_zero, List.set_cons_succ]
                refine wpAnyH_take (i := 17) (v := ?_) rfl (by kernel_rfl) (by kernel_rfl) (by kernel_rfl) (fun _ _ _ h => h) (Or.inl ⟨by first | kernel_rfl | rfl, ?_⟩) (by assumption) ?_
                rotate_left
                · intro w hSw; (try dsimp only at hSw); (try go_split_ands); go_simp; first | done | with_reducible rfl
                try simp only [Act.put, List.getElem_toArray, List.getElem_cons_succ, List.getElem_cons_zero, List.setIfInBounds_toArray, List.set_cons_zero, List.set_cons_succ]
                refine wpAnyH_ready (rs := [16]) (by kernel_rfl) (by simp) ?_
                refine AllReadyH.cons rfl (fun K hK => ?_) AllReadyH.nil
                go_simp
                go_at_call 157
                refine Calls.mono (hld2 _ hg2) ?_
                rintro e w3 ⟨rfl, hg3⟩
                replace hg3 := hg2.trans hg3
                clear hld2
                go_wp2_with fail
                refine hK.out _ _ ?_ (fun hHeld => ?_)
                · exact ⟨hbx hg3, hck hg3⟩
                clear hK K
                try simp only [Act.put, List.getElem_toArray, List.getElem_cons_succ, List.getElem_cons_zero, List.setIfInBounds_toArray, List.set_cons_zero, List.set_cons_succ]
                by_cases e2 : v2 = 0
                · have t2 : ((v2 : Int) != 0) = false := by rw [bne_eq_false_iff_eq]; omega
                  refine wpAnyH_take (i := 18) (v := ?_) rfl (by kernel_rfl) (by kernel_rfl) (by kernel_rfl) (fun _ _ _ h => h) (Or.inl ⟨by first | kernel_rfl | rfl, ?_⟩) (by assumption) ?_
                  rotate_left
                  · intro w hSw; (try dsimp only at hSw); (try go_split_ands); go_simp; first | done | with_reducible rfl
                  try simp only [Act.put, List.getElem_toArray, List.getElem_cons_succ, List.getElem_cons_zero, List.setIfInBounds_toArray, List.set_cons_zero, List.set_cons_succ]
                  refine wpAnyH_take (i := 19) (v := ?_) rfl (by kernel_rfl) (by kernel_rfl) (by kernel_rfl) (fun _ _ _ h => h) (Or.inl ⟨by first | kernel_rfl | rfl, ?_⟩) (by assumption) ?_
                  rotate_left
                  · intro w hSw; (try dsimp only at hSw); (try go_split_ands); go_simp; first | done | with_reducible rfl
                  try simp only [Act.put, List.getElem_toArray, List.getElem_cons_succ, List.getElem_cons_zero, List.setIfInBounds_toArray, List.set_cons_zero, List.set_cons_succ]
                  refine wpAnyH_done (by kernel_rfl) ?_ _
                  refine NoPanic.normal ?_
                  have HR := Lib.hid (HW.out.1 e1 e2)
                  clear e1 e2 hg hg2 hbx hck xk b0 b1
                  go_wp2
                  go_roundw
                  case rel => exact ⟨k + 1, by omega, by rw [HK.out], hg3, Lib.hid fun j hj => by
                    by_cases hjk : j = k
                    · subst hjk; exact HR.out
                    · exact HJ.out j (by omega)⟩
                  case measure => (have hkk := HK.out); simp [intOf]; omega
                · have t2 : ((v2 : Int) != 0) = true := by rw [bne_iff_ne]; omega
                  refine wpAnyH_take (i := 18) (v := ?_) rfl (by kernel_rfl) (by kernel_rfl) (by kernel_rfl) (fun _ _ _ h => h) (Or.inl ⟨by first | kernel_rfl | rfl, ?_⟩) (by assumption) ?_
                  rotate_left
                  · intro w hSw; (try dsimp only at hSw); (try go_split_ands); go_simp; first | done | with_reducible rfl
                  try simp only [Act.put, List.getElem_toArray, List.getElem_cons_succ, List.getElem_cons_zero, List.setIfInBounds_toArray, List.set_cons_zero, List.set_cons_succ]
                  refine wpAnyH_take (i := 19) (v := ?_) rfl (by kernel_rfl) (by kernel_rfl) (by kernel_rfl) (fun _ _ _ h => h) (Or.inl ⟨by first | kernel_rfl | rfl, ?_⟩) (by assumption) ?_
                  rotate_left
                  · intro w hSw; (try dsimp only at hSw); (try go_split_ands); go_simp; first | done | with_reducible rfl
                  try simp only [Act.put, List.getElem_toArray, List.getElem_cons_succ, List.getElem_cons_zero, List.setIfInBounds_toArray, List.set_cons_zero, List.set_cons_succ]
                  refine wpAnyH_done (by kernel_rfl) ?_ _
                  refine NoPanic.normal ?_
                  have HR := Lib.hid (HN.out.2.2 k hlt (HW.out.2.2 e2))
                  clear e1 e2 hg hg2 hbx hck xk b0 b1
                  go_wp2
                  go_ret
                  exact ⟨by rw [HR.out]; rfl, hga.trans hg3⟩
              · have t1 : ((u : Int) != 0) = true := by rw [bne_iff_ne]; omega
                refine wpAnyH_take (i := 8) (v := ?_) rfl (by kernel_rfl) (by kernel_rfl) (by kernel_rfl) (fun _ _ _ h => h) (Or.inl ⟨by first | kernel_rfl | rfl, ?_⟩) (by assumption) ?_
                rotate_left
                · intro w hSw; (try dsimp only at hSw); (try go_split_ands); go_simp; first | done | with_reducible rfl
                try simp only [Act.put, List.getElem_toArray, List.getElem_cons_succ, List.getElem_cons_zero, List.setIfInBounds_toArray, List.set_cons_zero, List.set_cons_succ]
                refine wpAnyH_take (i := 9) (v := ?_) rfl (by kernel_rfl) (by kernel_rfl) (by kernel_rfl) (fun _ _ _ h => h) (Or.inl ⟨by first | kernel_rfl | rfl, ?_⟩) (by assumption) ?_
                rotate_left
                · intro w hSw; (try dsimp only at hSw); (try go_split_ands); go_simp; first | done | with_reducible rfl
                try simp only [Act.put, List.getElem_toArray, List.getElem_cons_succ, List.getElem_cons_zero, List.setIfInBounds_toArray, List.set_cons_zero, List.set_cons_succ]
                refine wpAnyH_take (i := 10) (v := undef) rfl (by kernel_rfl) (by kernel_rfl) (by kernel_rfl) (fun _ _ _ h => h) (Or.inr ⟨by first | kernel_rfl | rfl, rfl⟩) (by assumption) ?_
                try simp only [Act.put, List.getElem_toArray, List.getElem_cons_succ, List.getElem_cons_zero, List.setIfInBounds_toArray, List.set_cons_zero, List.set_cons_succ]
                refine wpAnyH_take (i := 11) (v := undef) rfl (by kernel_rfl) (by kernel_rfl) (by kernel_rfl) (fun _ _ _ h => h) (Or.inr ⟨by first | kernel_rfl | rfl, rfl⟩) (by assumption) ?_
                try simp only [Act.put, List.getElem_toArray, List.getElem_cons_succ, List.getElem_cons_zero, List.setIfInBounds_toArray, List.set_cons_zero, List.set_cons_succ]
                refine wpAnyH_take (i := 12) (v := undef) rfl (by kernel_rfl) (by kernel_rfl) (by kernel_rfl) (fun _ _ _ h => h) (Or.inr ⟨by first | kernel_rfl | rfl, rfl⟩) (by assumption) ?_
                try simp only [Act.put, List.getElem_toArray, List.getElem_cons_succ, List.getElem_cons_zero, List.setIfInBounds_toArray, List.set_cons_zero, List.set_cons_succ]
                refine wpAnyH_take (i := 13) (v := undef) rfl (by kernel_rfl) (by kernel_rfl) (by kernel_rfl) (fun _ _ _ h => h) (Or.inr ⟨by first | kernel_rfl | rfl, rfl⟩) (by assumption) ?_
                try simp only [Act.put, List.getElem_toArray, List.getElem_cons_succ, List.getElem_cons_zero, List.setIfInBounds_toArray, List.set_cons_zero, List.set_cons_succ]
                refine wpAnyH_take (i := 14) (v := undef) rfl (by kernel_rfl) (by kernel_rfl) (by kernel_rfl) (fun _ _ _ h => h) (Or.inr ⟨by first | kernel_rfl | rfl, rfl⟩) (by assumption) ?_
                try simp only [Act.put, List.getElem_toArray, List.getElem_cons_succ, List.getElem_cons_zero, List.setIfInBounds_toArray, List.set_cons_zero, List.set_cons_succ]
                refine wpAnyH_take (i := 15) (v := undef) rfl (by kernel_rfl) (by kernel_rfl) (by kernel_rfl) (fun _ _ _ h => h) (Or.inr ⟨by first | kernel_rfl | rfl, rfl⟩) (by assumption) ?_
                try simp only [Act.put, List.getElem_toArray, List.getElem_cons_succ, List.getElem_cons_zero, List.setIfInBounds_toArray, List.set_cons_zero, List.set_cons_succ]
                refine wpAnyH_take (i := 16) (v := undef) rfl (by kernel_rfl) (by kernel_rfl) (by kernel_rfl) (fun _ _ _ h => h) (Or.inr ⟨by first | kernel_rfl | rfl, rfl⟩) (by assumption) ?_
                try simp only [Act.put, List.getElem_toArray, List.getElem_cons_succ, List.getElem_cons_zero, List.setIfInBounds_toArray, List.set_cons_zero, List.set_cons_succ]
                refine wpAnyH_take (i := 17) (v := undef) rfl (by kernel_rfl) (by kernel_rfl) (by kernel_rfl) (fun _ _ _ h => h) (Or.inr ⟨by first | kernel_rfl | rfl, rfl⟩) (by assumption) ?_
                try simp only [Act.put, List.getElem_toArray, List.getElem_cons_succ, List.getElem_cons_zero, List.setIfInBounds_toArray, List.set_cons_zero, List.set_cons_succ]
                refine wpAnyH_take (i := 18) (v := undef) rfl (by kernel_rfl) (by kernel_rfl) (by kernel_rfl) (fun _ _ _ h => h) (Or.inr ⟨by first | kernel_rfl | rfl, rfl⟩) (by assumption) ?_
                try simp only [Act.put, List.getElem_toArray, List.getElem_cons_succ, List.getElem_cons_zero, List.setIfInBounds_toArray, List.set_cons_zero, List.set_cons_succ]
                refine wpAnyH_take (i := 19) (v := ?_) rfl (by kernel_rfl) (by kernel_rfl) (by kernel_rfl) (fun _ _ _ h => h) (Or.inl ⟨by first | kernel_rfl | rfl, ?_⟩) (by assumption) ?_
                rotate_left
                · intro w hSw; (try dsimp only at hSw); (try go_split_ands); go_simp; first | done | with_reducible rfl
                try simp only [Act.put, List.getElem_toArray, List.getElem_cons_succ, List.getElem_cons_zero, List.setIfInBounds_toArray, List.set_cons_zero, List.set_cons_succ]
                refine wpAnyH_done (by kernel_rfl) ?_ _
                refine NoPanic.normal ?_
                have HR := Lib.hid (HN.out.2.2 k hlt (HW.out.2.1 e1))
                clear e1 hg hbx hck xk b0 b1 hld2
                go_wp2
                go_ret
                exact ⟨by rw [HR.out]; rfl, hga.trans hg2⟩
        · obtain rfl : k = n := by omega
          have g0 : decide ((k : Int) < k) = false := decide_eq_false (by omega)
          have HR := Lib.hid (HN.out.2.1 HE.out HJ.out)
          clear hrc hld hxl
          go_wp2
          go_ret
          exact ⟨by rw [HR.out]; rfl, hga.trans hg⟩
    · have t0 : ((H : Int) != Y) = true := by rw [bne_iff_ne]; omega
      have HR := Lib.hid (HN.out.1 hHY)
      clear hHY hrc hld hxl
      go_wp2
      go_ret
      exact ⟨by rw [HR.out]; rfl, hga.trans hg1⟩
end Go.Proofs.Ck
