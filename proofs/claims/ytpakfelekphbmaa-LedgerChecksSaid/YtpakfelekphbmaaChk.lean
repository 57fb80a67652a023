/- The ledger: the check, the program's and the document's. -/
import Derived.Test.YtpakfelekphbmaaLd2
import Derived.Test.YtpakfelekphbmaaLed1
import Derived.Test.YtpakfelekphbmaaRef8
import Derived.Test.YtpakfelekphbmaaGDirW
namespace Go.Proofs.Ck
open Go Go.RowKit

theorem chk_no_head {f : Nat → Nat} {c : Int} {l : List Nat} (h : getF f c 8 ≠ l.getD 0 0) : chkB f c l = false := by
  unfold chkB; rw [decide_eq_false h, Bool.false_and]
theorem chk_no_word {f : Nat → Nat} {c : Int} {l : List Nat} {i : Nat} (hi : i < l.length) (h : wordsB f l i = false) : chkB f c l = false := by
  unfold chkB
  rw [Bool.and_eq_false_iff]
  refine .inr ?_
  rw [List.all_eq_false]
  exact ⟨i, List.mem_range.2 hi, by rw [h]; simp⟩
theorem chk_yes {f : Nat → Nat} {c : Int} {l : List Nat} (h : getF f c 8 = l.getD 0 0) (ha : ∀ i, i < l.length → wordsB f l i = true) : chkB f c l = true := by
  unfold chkB
  rw [decide_eq_true h, Bool.true_and, List.all_eq_true]
  exact fun i hi => ha i (List.mem_range.1 hi)
/-- What stands before a place. -/
def befZ (l : List Nat) (i : Nat) : Nat := if i = 0 then 0 else l.getD (i - 1) 0
theorem atZ_bef (l : List Nat) (k : Nat) : atZ l ((k : Int) - 1) = befZ l k := by
  unfold atZ befZ
  by_cases h : k = 0
  · subst h; rfl
  · rw [if_pos (by omega), if_neg h]
    congr 1
    omega
theorem atZ_aft (l : List Nat) (k : Nat) : atZ l ((k : Int) + 1) = l.getD (k + 1) 0 := by
  unfold atZ
  rw [if_pos (by omega)]
  rfl
theorem words_yes {f : Nat → Nat} {l : List Nat} {i : Nat} (h1 : f ((l.getD i 0 + 16) % 18446744073709551616) = l.getD (i + 1) 0) (h2 : f ((l.getD i 0 + 24) % 18446744073709551616) = befZ l i) : wordsB f l i = true := by
  unfold wordsB; rw [decide_eq_true h1]; exact decide_eq_true h2
theorem words_no1 {f : Nat → Nat} {l : List Nat} {i : Nat} (h1 : f ((l.getD i 0 + 16) % 18446744073709551616) ≠ l.getD (i + 1) 0) : wordsB f l i = false := by
  unfold wordsB; rw [decide_eq_false h1]; rfl
theorem words_no2 {f : Nat → Nat} {l : List Nat} {i : Nat} (h2 : f ((l.getD i 0 + 24) % 18446744073709551616) ≠ befZ l i) : wordsB f l i = false := by
  unfold wordsB; rw [Bool.and_eq_false_iff]; exact .inr (decide_eq_false h2)

set_option maxRecDepth 100000 in
set_option maxHeartbeats 4000000 in
theorem check_call {S : Nat → Prop} {w : World} {v : Value} {f : Nat → Nat} {A : Option Addr} {n cA : Nat} {l : List Nat} (h : TxAny w v f) (c : Int) (hn : l.length = n) (hr : Row S w A n 1 (u64s l)) (hx : ∀ a ∈ l, a < 18446744073709551616) (hm : n ≤ 9223372036854775807) :
    Calls Try.prog 109 #[v, .int .i64 c, .slice A n cA] w fun e w' => e = .returned (.bool (chkB f c l)) ∧ Grow w w' := by
  have hga : Grow w (w.alloc (.cells #[.slice A n cA] 27)) := (Below.refl _ _).alloc (Nat.le_refl _) _
  have hB := World.alloc_heap_new w (.cells #[.slice A n cA] 27)
  have hrd := headIs (h.grow hga) (c := c) rfl
  have hcell : ∀ {w' : World}, Grow w w' → ∀ j, j < n → ∃ a off, A = some ⟨a, off, none⟩ ∧ w'.cell? ⟨a, off + j, none⟩ = some (.int .u64 ((l.getD j 0 : Nat) : Int)) := fun {w'} hg j hj => by
    obtain ⟨b, o, e, -, hc⟩ := (hr.grow hg).pos (by omega) (by omega)
    exact ⟨b, o, e, hc j _ (u64s_get (by omega))⟩
  have hat := fun w' (hg : Grow (w.alloc (.cells #[.slice A n cA] 27)) w') => atZ_call (hg.heap hB) hn (hcell (hga.trans hg))
  have hld := fun w' (hg : Grow (w.alloc (.cells #[.slice A n cA] 27)) w') => load_txany (h.grow (hga.trans hg))
  obtain ⟨H, hH⟩ : ∃ x, getF f c 8 = x := ⟨_, rfl⟩
  have a0 : (w.alloc (.cells #[.slice A n cA] 27)).cell? ⟨w.heap.size, 0, none⟩ = some (.slice A n cA) := by rw [cell_of_heap hB]; rfl
  have ez : atZ l 0 = l.getD 0 0 := rfl
  rw [hH] at hrd
  obtain ⟨Y, hY⟩ : ∃ y, l.getD 0 0 = y := ⟨_, rfl⟩
  have hno : H ≠ Y → chkB f c l = false := fun hh => chk_no_head (by rw [hH, hY]; exact hh)
  have hyes : H = Y → (∀ i, i < n → wordsB f l i = true) → chkB f c l = true := fun hh ha => chk_yes (by rw [hH, hY]; exact hh) (by rw [hn]; exact ha)
  have hnw : ∀ i, i < n → wordsB f l i = false → chkB f c l = false := fun i hi hw => chk_no_word (by rw [hn]; exact hi) hw
  have hxl : ∀ j, j < n → l.getD j 0 < 18446744073709551616 := fun j hj => by
    rw [List.getD_eq_getElem?_getD, List.getElem?_eq_getElem (by omega)]
    exact hx _ (List.getElem_mem _)
  obtain ⟨B, hBd⟩ : ∃ b, chkB f c l = b := ⟨_, rfl⟩
  rw [hBd] at hno hyes hnw
  rw [hBd]
  have HN := Lib.hid (⟨hno, hyes, hnw⟩ : _ ∧ _ ∧ _)
  clear hno hyes hnw hBd hH hx
  go_enter Try.func109, Try.ntmps109
  go_wp2_with fail
  generalize w.alloc (.cells #[.slice A n cA] 27) = wa at *
  refine hrd.mono ?_
  rintro e w1 ⟨rfl, hg1⟩
  clear hrd h
  go_wp2_with fail
  have h0 := hat w1 hg1 0
  rw [ez, hY] at h0
  refine h0.mono ?_
  rintro e w' ⟨rfl, rfl⟩
  clear h0 ez a0 hY hr
  have hB1 := hg1.heap hB
  have b0 : w1.cell? ⟨w.heap.size, 0, none⟩ = some (.slice A n cA) := by rw [cell_of_heap hB1]; rfl
  by_cases hHY : H = Y
  · have t0 : ((H : Int) != Y) = false := by rw [bne_eq_false_iff_eq]; omega
    have HE := Lib.hid hHY
    clear hHY
    go_wp2_with fail
    go_loopw [19] (fun i wr => ∃ k : Nat, k ≤ n ∧ i = .int .i64 (k : Int) ∧ Grow wa wr ∧ Hid (∀ j, j < k → wordsB f l j = true)) (fun i _ => n - (intOf i).toNat)
    case atStart => exact ⟨0, Nat.zero_le _, rfl, hg1, Lib.hid fun j hj => by omega⟩
    case round =>
      clear hB1 b0
      obtain ⟨k, hk, rfl, hg, HJ⟩ := hrel
      by_cases hlt : k < n
      · have g0 : decide ((k : Int) < n) = true := decide_eq_true (by omega)
        obtain ⟨a, o, rfl, hc⟩ := hcell (hga.trans hg) k hlt
        obtain ⟨x, hx⟩ : ∃ x, l.getD k 0 = x := ⟨_, rfl⟩
        have hx64 := hxl k hlt
        have hld1 := fun w' (hg' : Grow wa w') => hld w' hg' ((x + 16) % 18446744073709551616) (Nat.mod_lt _ (by omega))
        have hld2 := fun w' (hg' : Grow wa w') => hld w' hg' ((x + 24) % 18446744073709551616) (Nat.mod_lt _ (by omega))
        have ha1 := fun w' hg' => hat w' hg' ((k : Int) + 1)
        have ha2 := fun w' hg' => hat w' hg' ((k : Int) - 1)
        rw [atZ_aft] at ha1
        rw [atZ_bef] at ha2
        have wy := words_yes (f := f) (l := l) (i := k)
        have w1' := words_no1 (f := f) (l := l) (i := k)
        have w2' := words_no2 (f := f) (l := l) (i := k)
        obtain ⟨o16, ho16⟩ : ∃ o, (x + 16) % 18446744073709551616 = o := ⟨_, rfl⟩
        obtain ⟨o24, ho24⟩ : ∃ o, (x + 24) % 18446744073709551616 = o := ⟨_, rfl⟩
        have p16 : IntKind.u64.wrap ((x : Int) + 16) = (o16 : Int) := by rw [IntKind.wrap_u64]; omega
        have p24 : IntKind.u64.wrap ((x : Int) + 24) = (o24 : Int) := by rw [IntKind.wrap_u64]; omega
        have pk1 : IntKind.i64.wrap ((k : Int) + 1) = (k : Int) + 1 := by rw [IntKind.wrap_i64]; omega
        have pk2 : IntKind.i64.wrap ((k : Int) - 1) = (k : Int) - 1 := by rw [IntKind.wrap_i64]; omega
        rw [hx] at hc wy w1' w2' hx64
        rw [ho16] at hld1 wy w1'
        rw [ho24] at hld2 wy w2'
        obtain ⟨u, hu⟩ : ∃ x, f o16 = x := ⟨_, rfl⟩
        obtain ⟨v2, hv2⟩ : ∃ x, f o24 = x := ⟨_, rfl⟩
        obtain ⟨y1, hy1⟩ : ∃ x, l.getD (k + 1) 0 = x := ⟨_, rfl⟩
        obtain ⟨y2, hy2⟩ : ∃ x, befZ l k = x := ⟨_, rfl⟩
        rw [hu] at hld1 wy w1'
        rw [hv2] at hld2 wy w2'
        rw [hy1] at ha1 wy w1'
        rw [hy2] at ha2 wy w2'
        have HW := Lib.hid (⟨wy, w1', w2'⟩ : _ ∧ _ ∧ _)
        have gi0 : (0 : Int) ≤ k := by omega
        have gi1 : (k : Int) < n := by omega
        have h1 := hld1 wr hg
        clear hx hu hv2 hy1 hy2 ho16 ho24 hcell hat hld hxl wy w1' w2' hld1
        go_wp2_with fail
        refine h1.mono ?_
        rintro e w2 ⟨rfl, hg2⟩
        replace hg2 := hg.trans hg2
        clear h1 hc
        have h1 := ha1 w2 hg2
        clear ha1
        go_wp2_with fail
        refine h1.mono ?_
        rintro e w' ⟨rfl, rfl⟩
        clear h1
        by_cases e1 : u = y1
        · have t1 : ((u : Int) != y1) = false := by rw [bne_eq_false_iff_eq]; omega
          have h1 := hld2 w2 hg2
          clear hld2
          go_wp2_with fail
          refine h1.mono ?_
          rintro e w3 ⟨rfl, hg3⟩
          replace hg3 := hg2.trans hg3
          clear h1
          have h1 := ha2 w3 hg3
          clear ha2
          go_wp2_with fail
          refine h1.mono ?_
          rintro e w' ⟨rfl, rfl⟩
          clear h1
          by_cases e2 : v2 = y2
          · have t2 : ((v2 : Int) != y2) = false := by rw [bne_eq_false_iff_eq]; omega
            have HR := Lib.hid (HW.out.1 e1 e2)
            clear e1 e2 hg hg2
            go_wp2
            go_roundw
            case rel => exact ⟨k + 1, by omega, by go_num, hg3, Lib.hid fun j hj => by
              by_cases hjk : j = k
              · subst hjk; exact HR.out
              · exact HJ.out j (by omega)⟩
            case measure => simp [intOf]; omega
          · have t2 : ((v2 : Int) != y2) = true := by rw [bne_iff_ne]; omega
            have HR := Lib.hid (HN.out.2.2 k hlt (HW.out.2.2 e2))
            clear e1 e2 hg hg2
            go_wp2
            go_ret
            exact ⟨by rw [HR.out]; rfl, hga.trans hg3⟩
        · have t1 : ((u : Int) != y1) = true := by rw [bne_iff_ne]; omega
          have HR := Lib.hid (HN.out.2.2 k hlt (HW.out.2.1 e1))
          clear e1 hld2 ha2 hg
          go_wp2
          go_ret
          exact ⟨by rw [HR.out]; rfl, hga.trans hg2⟩
      · obtain rfl : k = n := by omega
        have g0 : decide ((k : Int) < k) = false := decide_eq_false (by omega)
        have HR := Lib.hid (HN.out.2.1 HE.out HJ.out)
        clear hcell hat hld hxl
        go_wp2
        go_ret
        exact ⟨by rw [HR.out]; rfl, hga.trans hg⟩
  · have t0 : ((H : Int) != Y) = true := by rw [bne_iff_ne]; omega
    have HR := Lib.hid (HN.out.1 hHY)
    clear hHY hcell hat hld hxl
    go_wp2
    go_ret
    exact ⟨by rw [HR.out]; rfl, hga.trans hg1⟩
end Go.Proofs.Ck
