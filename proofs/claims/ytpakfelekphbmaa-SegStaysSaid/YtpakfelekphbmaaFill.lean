/- A part of the proofs of this seat's laws. -/
import Derived.Test.YtpakfelekphbmaaFill0
namespace Go.Proofs.Ck
open Go Go.RowKit

theorem fresh_length (size : Nat) : (fresh size).length = if may size then size / 8 else 0 := by unfold fresh; split <;> simp

set_option maxRecDepth 100000 in
set_option maxHeartbeats 4000000 in
theorem filled {w : World} {A : Option Addr} {c : Nat} {l : List (Nat × Nat)} (size : Nat) (hsz : size < 18446744073709551616) (hl : Puts (fun b => b < w.heap.size) w A l) (hm : l.length ≤ 9223372036854775807)
    (hx : ∀ p ∈ l, p.1 < 18446744073709551616 ∧ p.2 < 18446744073709551616) :
    Calls Try.prog 44 #[.int .u64 (size : Int), .slice A l.length c] w fun e w' =>
      ∃ s y A' c', (e = .returned (.tuple #[s, .slice A' (fresh size).length c', .bool true]) ∧ SegAt w' s y (fillW size (l.take 40)) ∧ Row (fun b => w.heap.size ≤ b ∧ y ≠ some b) w' A' (fresh size).length 1 (u64s (fillW size (l.take 40))) ∧
        (∀ b, y = some b → w.heap.size ≤ b)) ∧ Grow w w' := by
  by_cases hmay : may size
  · have hf : fresh size = List.replicate (size / 8) 0 := by rw [fresh, if_pos hmay]
    obtain ⟨m0, m8, mx⟩ := hmay
    have hfl : (fresh size).length = size / 8 := by rw [hf]; simp
    have e8 : 8 * (size / 8) = size := by omega
    rw [hfl]
    have t1 : ((size : Int) != 8 * ((size : Int) / 8)) = false := by rw [← Bool.not_eq_true, bne_iff_ne]; omega
    go_enter Try.func44, Try.ntmps44
    go_wp2_with fail
    refine (snew_ok size w m0 m8 mx).mono ?_
    rintro e w1 ⟨⟨sb, bb, cs, rfl, hseg, hsb, hbb⟩, hg1⟩
    go_wp2_with fail
    refine (rnew_ok size w1 m0 m8 mx).mono ?_
    rintro e w2 ⟨g, ⟨rfl, hown⟩, hg2⟩
    go_wp2_with fail
    refine (may_ok size w2 m0 m8 mx).mono ?_
    rintro e w' ⟨rfl, rfl⟩
    go_wp2_with fail
    refine (size_some sb _ _ _ w2 (hseg.grow hg2).head (by have := hseg.small; omega)).mono ?_
    rintro e w' ⟨rfl, rfl⟩
    clear hfl
    have hL : (fresh size).length = size / 8 := by rw [hf]; simp
    have hg0 := hg1.trans hg2
    have hseg0 : SegAt w2 (.pointer (some ⟨sb, 0, none⟩)) (some bb) (fillW size (l.take 0)) := .inr ⟨sb, bb, size, cs, rfl, rfl, by rw [List.take_zero]; show SegRep w2 sb bb size cs (fresh size); rw [hf]; exact hseg.grow hg2⟩
    have hrow0 : Row (fun b => w.heap.size ≤ b ∧ some bb ≠ some b) w2 (some ⟨g, 0, none⟩) (size / 8) 1 (u64s (fillW size (l.take 0))) := by
      obtain ⟨cur, hgb, hgh, _, _, _, hcur⟩ := own_some hown
      have hne : g ≠ bb := by
        rintro rfl
        have := hgh.symm.trans (hg2.heap hseg.bytes)
        simp at this
      refine Row.of_block hgh ⟨by have := hg1.size; omega, fun e => hne (by cases e; rfl)⟩ ?_ ?_
      · rw [List.take_zero]; show (u64s (fresh size)).length = _; rw [u64s_length, hL, Nat.mul_one]
      · rw [List.take_zero]; show ∀ (j : Nat) (u : Value), (u64s (fresh size))[j]? = some u → _; rw [hf]; exact hcur
    have hyb : ∀ b, some bb = some b → w.heap.size ≤ b := fun b hb => by cases hb; exact hbb
    have hLs : size / 8 ≤ 131072 := by omega
    go_wp2_with fail
    generalize hs : (Value.pointer (some ⟨sb, 0, none⟩)) = s at *
    generalize hLd : size / 8 = L at *
    have HLD := Lib.hid hLd
    clear hLd
    generalize hy : some bb = y at *
    clear hown hseg hg1 hg2 t1 e8 hf hs hsb m0 m8 mx hbb hy
    go_loopw [8, 9] (fun v i wr => ∃ k : Nat, k ≤ l.length ∧ k ≤ 40 ∧ i = .int .i64 (k : Int) ∧ (∃ A2 c2, v = .slice A2 L c2 ∧ Row (fun b => w.heap.size ≤ b ∧ y ≠ some b) wr A2 L 1 (u64s (fillW size (l.take k)))) ∧ SegAt wr s y (fillW size (l.take k)) ∧ Grow w wr)
      (fun _ i _ => 40 - (intOf i).toNat)
    case atStart => exact ⟨0, Nat.zero_le _, Nat.zero_le _, rfl, ⟨_, _, rfl, hrow0⟩, hseg0, hg0⟩
    case round =>
      obtain ⟨k, hk, hk40, rfl, ⟨A2, c2, rfl, hrow⟩, hsg, hg⟩ := hrel
      by_cases hlt : k < l.length ∧ k < 40
      · obtain ⟨hlt1, hlt2⟩ := hlt
        have hlen : (fillW size (l.take k)).length = L := by rw [fillW_length]; exact hL
        have hnx : fillW size (l.take (k + 1)) = stored (fillW size (l.take k)) (l.getD k (0, 0)).1 (l.getD k (0, 0)).2 := by rw [take_succ_getD' hlt1, fillW_snoc]
        have hbd := hx (l.getD k (0, 0)) (by rw [List.getD_eq_getElem?_getD, List.getElem?_eq_getElem hlt1]; exact List.getElem_mem _)
        obtain ⟨b, o, rfl, hbS, hc⟩ := (hl.grow hg).pos (by omega) (by omega)
        have hx1 := hc (k * 2) _ (puts_get hlt1).1
        have hx2 := hc (k * 2 + 1) _ (puts_get hlt1).2
        rw [← Nat.add_assoc] at hx2
        have g0 : decide ((k : Int) < l.length) = true := decide_eq_true (by omega)
        clear hc
        generalize l.getD k (0, 0) = p at hnx hbd hx1 hx2
        obtain ⟨p1, p2⟩ := p
        simp only at hnx hbd hx1 hx2
        have HNX := Lib.hid hnx
        clear hnx
        go_wp2
        go_still_tail 11, (by kernel_rfl)
        change wpList _ _ _ _ _ wr.drew
        have hsg' : SegAt wr.drew s y (fillW size (l.take k)) := hsg.grow (grow_drew _)
        have hrow' : Row (fun b => w.heap.size ≤ b ∧ y ≠ some b) wr.drew A2 L 1 (u64s (fillW size (l.take k))) := hrow.grow (grow_drew _)
        have hg' : Grow w wr.drew := hg.drew
        have hx1' : wr.drew.cell? ⟨b, o + k * 2, none⟩ = some (.int .u64 (p1 : Int)) := hx1
        have hx2' : wr.drew.cell? ⟨b, o + k * 2 + 1, none⟩ = some (.int .u64 (p2 : Int)) := hx2
        clear hsg hrow hg hx1 hx2
        generalize wr.drew = w3 at hsg' hrow' hg' hx1' hx2' ⊢
        go_wp2_with fail
        refine (store_any hsg' p1 p2 hbd.1 hbd.2).mono ?_
        rintro e w4 ⟨rfl, hsg4, ho4⟩
        have hg4 : Grow w w4 := Below.trans hg' (ho4.below hg'.size hyb)
        have hrow4 := hrow'.only ho4 (fun b hb hS => hS.2 hb)
        have hne4 : ¬ y = some b := fun e => by have := hyb b e; omega
        have hx1 : w4.cell? ⟨b, o + k * 2, none⟩ = some (.int .u64 (p1 : Int)) := by
          obtain ⟨ob, hob, -⟩ := cells_of_cell hx1'
          exact (World.cell?_of_block ((ho4.heap hob hne4).trans hob.symm)).trans hx1'
        have hx2 : w4.cell? ⟨b, o + k * 2 + 1, none⟩ = some (.int .u64 (p2 : Int)) := by
          obtain ⟨ob, hob, -⟩ := cells_of_cell hx2'
          exact (World.cell?_of_block ((ho4.heap hob hne4).trans hob.symm)).trans hx2'
        have hcl := codeOf_le (fillW size (l.take k)) p1
        clear hsg' hrow' hg' hx1' hx2' ho4
        go_wp2_with fail
        refine wp_region_mid 11 rfl (by kernel_rfl) (by kernel_rfl) ?_
        simp only [List.take_succ_cons, List.take_zero, List.drop_succ_cons, List.drop_zero]
        repeat still_step
        refine wpStill_nil ?_
        change wpList _ _ _ _ _ w4.drew
        have hsg5 := hsg4.grow (grow_drew w4)
        have hrow5 := hrow4.grow (grow_drew w4)
        have hg5 : Grow w w4.drew := hg4.drew
        clear hsg4 hrow4 hg4 hx1 hx2
        generalize w4.drew = w5 at hsg5 hrow5 hg5 ⊢
        go_wp2_with fail
        refine (rstore_any hrow5 hlen p1 p2 hbd.1 (by omega)).mono ?_
        rintro e w6 ⟨⟨A', c', rfl, hrow6⟩, hg6⟩
        have hsg6 := hsg5.grow hg6
        have hg7 := hg5.trans hg6
        have hrow7 : Row (fun b => w.heap.size ≤ b ∧ y ≠ some b) w6 A' L 1 (u64s (stored (fillW size (l.take k)) p1 p2)) := hrow6.mono (fun b hb hS => by
          rcases hS with hS | hS
          · exact hS
          · exact ⟨Nat.le_trans hg5.size hS, fun e => by have := hsg5.lt b e; omega⟩)
        generalize codeOf (fillW size (l.take k)) p1 = z at hcl
        have tz : ((z : Int) != z) = false := by simp
        clear hrow5 hsg5 hg5 hrow6 hg6
        go_wp2_with fail
        repeat still_step
        refine wpStill_nil ?_
        go_wp2
        go_roundw
        case rel => exact ⟨k + 1, by omega, by omega, by go_num, ⟨A', c', rfl, by rw [HNX.out]; exact hrow7⟩, by rw [HNX.out]; exact hsg6, hg7⟩
        case measure => simp [intOf]; omega
      · have htk : l.take k = l.take 40 := by
          rw [List.take_eq_take_iff]; omega
        rw [htk] at hrow hsg
        have HF := Lib.hid hlt
        by_cases hkl : k < l.length
        · have g0 : decide ((k : Int) < l.length) = true := decide_eq_true (by omega)
          have g1 : decide ((k : Int) < 40) = false := decide_eq_false (by omega)
          clear hlt htk hx hl hL
          go_wp2
          go_ret3
          have hLd := HLD.out
          subst hLd
          exact ⟨s, y, A2, c2, ⟨rfl, hsg, hrow, hyb⟩, hg⟩
        · have g0 : decide ((k : Int) < l.length) = false := decide_eq_false (by omega)
          clear hlt htk hx hl hL
          go_wp2
          go_ret3
          have hLd := HLD.out
          subst hLd
          exact ⟨s, y, A2, c2, ⟨rfl, hsg, hrow, hyb⟩, hg⟩
  · have hf : fresh size = [] := by rw [fresh, if_neg hmay]
    have hL : (fresh size).length = 0 := by rw [hf]; rfl
    rw [hL]
    have t1 : ((0 : Int) != 0) = false := rfl
    go_enter Try.func44, Try.ntmps44
    go_wp2_with fail
    refine (snew_bad size w hsz hmay).mono ?_
    rintro e w' ⟨rfl, rfl⟩
    go_wp2_with fail
    refine (rnew_bad size w hsz hmay).mono ?_
    rintro e w' ⟨rfl, rfl⟩
    go_wp2_with fail
    refine (may_bad size w hsz hmay).mono ?_
    rintro e w' ⟨rfl, rfl⟩
    go_wp2_with fail
    refine (size_nil w).mono ?_
    rintro e w' ⟨rfl, rfl⟩
    have hg0 : Grow w w := Below.refl _ _
    have hseg0 : SegAt w (.pointer none) none (fillW size (l.take 0)) := .inl ⟨rfl, by rw [List.take_zero]; exact hf, rfl⟩
    have hrow0 : Row (fun b => w.heap.size ≤ b ∧ none ≠ some b) w none 0 1 (u64s (fillW size (l.take 0))) := by
      rw [List.take_zero]; show Row _ w none 0 1 (u64s (fresh size)); rw [hf]; exact Row.empty
    have hyb : ∀ b, none = some b → w.heap.size ≤ b := fun b hb => by cases hb
    have hLs : 0 ≤ 131072 := by omega
    go_wp2_with fail
    clear hf
    go_loopw [8, 9] (fun v i wr => ∃ k : Nat, k ≤ l.length ∧ k ≤ 40 ∧ i = .int .i64 (k : Int) ∧ (∃ A2 c2, v = .slice A2 0 c2 ∧ Row (fun b => w.heap.size ≤ b ∧ (none : Option Nat) ≠ some b) wr A2 0 1 (u64s (fillW size (l.take k)))) ∧ SegAt wr (.pointer none) none (fillW size (l.take k)) ∧ Grow w wr)
      (fun _ i _ => 40 - (intOf i).toNat)
    case atStart => exact ⟨0, Nat.zero_le _, Nat.zero_le _, rfl, ⟨_, _, rfl, hrow0⟩, hseg0, hg0⟩
    case round =>
      obtain ⟨k, hk, hk40, rfl, ⟨A2, c2, rfl, hrow⟩, hsg, hg⟩ := hrel
      by_cases hlt : k < l.length ∧ k < 40
      · obtain ⟨hlt1, hlt2⟩ := hlt
        have hlen : (fillW size (l.take k)).length = 0 := by rw [fillW_length]; exact hL
        have hnx : fillW size (l.take (k + 1)) = stored (fillW size (l.take k)) (l.getD k (0, 0)).1 (l.getD k (0, 0)).2 := by rw [take_succ_getD' hlt1, fillW_snoc]
        have hbd := hx (l.getD k (0, 0)) (by rw [List.getD_eq_getElem?_getD, List.getElem?_eq_getElem hlt1]; exact List.getElem_mem _)
        obtain ⟨b, o, rfl, hbS, hc⟩ := (hl.grow hg).pos (by omega) (by omega)
        have hx1 := hc (k * 2) _ (puts_get hlt1).1
        have hx2 := hc (k * 2 + 1) _ (puts_get hlt1).2
        rw [← Nat.add_assoc] at hx2
        have g0 : decide ((k : Int) < l.length) = true := decide_eq_true (by omega)
        clear hc
        generalize l.getD k (0, 0) = p at hnx hbd hx1 hx2
        obtain ⟨p1, p2⟩ := p
        simp only at hnx hbd hx1 hx2
        have HNX := Lib.hid hnx
        clear hnx
        go_wp2
        go_still_tail 11, (by kernel_rfl)
        change wpList _ _ _ _ _ wr.drew
        have hsg' : SegAt wr.drew (.pointer none) none (fillW size (l.take k)) := hsg.grow (grow_drew _)
        have hrow' : Row (fun b => w.heap.size ≤ b ∧ (none : Option Nat) ≠ some b) wr.drew A2 0 1 (u64s (fillW size (l.take k))) := hrow.grow (grow_drew _)
        have hg' : Grow w wr.drew := hg.drew
        have hx1' : wr.drew.cell? ⟨b, o + k * 2, none⟩ = some (.int .u64 (p1 : Int)) := hx1
        have hx2' : wr.drew.cell? ⟨b, o + k * 2 + 1, none⟩ = some (.int .u64 (p2 : Int)) := hx2
        clear hsg hrow hg hx1 hx2
        generalize wr.drew = w3 at hsg' hrow' hg' hx1' hx2' ⊢
        go_wp2_with fail
        refine (store_any hsg' p1 p2 hbd.1 hbd.2).mono ?_
        rintro e w4 ⟨rfl, hsg4, ho4⟩
        have hg4 : Grow w w4 := Below.trans hg' (ho4.below hg'.size hyb)
        have hrow4 := hrow'.only ho4 (fun b hb hS => hS.2 hb)
        have hne4 : ¬ (none : Option Nat) = some b := fun e => by have := hyb b e; omega
        have hx1 : w4.cell? ⟨b, o + k * 2, none⟩ = some (.int .u64 (p1 : Int)) := by
          obtain ⟨ob, hob, -⟩ := cells_of_cell hx1'
          exact (World.cell?_of_block ((ho4.heap hob hne4).trans hob.symm)).trans hx1'
        have hx2 : w4.cell? ⟨b, o + k * 2 + 1, none⟩ = some (.int .u64 (p2 : Int)) := by
          obtain ⟨ob, hob, -⟩ := cells_of_cell hx2'
          exact (World.cell?_of_block ((ho4.heap hob hne4).trans hob.symm)).trans hx2'
        have hcl := codeOf_le (fillW size (l.take k)) p1
        clear hsg' hrow' hg' hx1' hx2' ho4
        go_wp2_with fail
        refine wp_region_mid 11 rfl (by kernel_rfl) (by kernel_rfl) ?_
        simp only [List.take_succ_cons, List.take_zero, List.drop_succ_cons, List.drop_zero]
        repeat still_step
        refine wpStill_nil ?_
        change wpList _ _ _ _ _ w4.drew
        have hsg5 := hsg4.grow (grow_drew w4)
        have hrow5 := hrow4.grow (grow_drew w4)
        have hg5 : Grow w w4.drew := hg4.drew
        clear hsg4 hrow4 hg4 hx1 hx2
        generalize w4.drew = w5 at hsg5 hrow5 hg5 ⊢
        go_wp2_with fail
        refine (rstore_any hrow5 hlen p1 p2 hbd.1 (by omega)).mono ?_
        rintro e w6 ⟨⟨A', c', rfl, hrow6⟩, hg6⟩
        have hsg6 := hsg5.grow hg6
        have hg7 := hg5.trans hg6
        have hrow7 : Row (fun b => w.heap.size ≤ b ∧ (none : Option Nat) ≠ some b) w6 A' 0 1 (u64s (stored (fillW size (l.take k)) p1 p2)) := hrow6.mono (fun b hb hS => by
          rcases hS with hS | hS
          · exact hS
          · exact ⟨Nat.le_trans hg5.size hS, fun e => by have := hsg5.lt b e; omega⟩)
        generalize codeOf (fillW size (l.take k)) p1 = z at hcl
        have tz : ((z : Int) != z) = false := by simp
        clear hrow5 hsg5 hg5 hrow6 hg6
        go_wp2_with fail
        repeat still_step
        refine wpStill_nil ?_
        go_wp2
        go_roundw
        case rel => exact ⟨k + 1, by omega, by omega, by go_num, ⟨A', c', rfl, by rw [HNX.out]; exact hrow7⟩, by rw [HNX.out]; exact hsg6, hg7⟩
        case measure => simp [intOf]; omega
      · have htk : l.take k = l.take 40 := by
          rw [List.take_eq_take_iff]; omega
        rw [htk] at hrow hsg
        have HF := Lib.hid hlt
        by_cases hkl : k < l.length
        · have g0 : decide ((k : Int) < l.length) = true := decide_eq_true (by omega)
          have g1 : decide ((k : Int) < 40) = false := decide_eq_false (by omega)
          clear hlt htk hx hl hL
          go_wp2
          go_ret3
          exact ⟨.pointer none, none, A2, c2, ⟨rfl, hsg, hrow, hyb⟩, hg⟩
        · have g0 : decide ((k : Int) < l.length) = false := decide_eq_false (by omega)
          clear hlt htk hx hl hL
          go_wp2
          go_ret3
          exact ⟨.pointer none, none, A2, c2, ⟨rfl, hsg, hrow, hyb⟩, hg⟩

end Go.Proofs.Ck
