/- A segment, formatted, and what is thought of over it, twice: the law's own function. -/
import Derived.Test.YtpakfelekphbmaaGTx
namespace Go.Proofs.Ck
open Go Go.RowKit

set_option maxRecDepth 100000 in
set_option maxHeartbeats 4000000 in
theorem formed108 {w : World} {A : Option Addr} {c : Nat} {l : List (Nat × Nat)} (size : Nat) (hf : fits size 4800) (hl : Puts (fun b => b < w.heap.size) w A l) (hm : l.length ≤ 9223372036854775807)
    (hx : ∀ p ∈ l, p.1 < 18446744073709551616 ∧ p.2 < 18446744073709551616) :
    Calls Try.prog 108 #[.int .u64 (size : Int), .slice A l.length c] w fun e w' =>
      ∃ base v rv M, e = .returned (.tuple #[v, rv]) ∧ Pair w' base v rv M (fillS ⟨fmtW 600 size, []⟩ (l.take 60)) ∧ w.heap.size ≤ base ∧ Grow w w' := by
  have hg0 : Grow w (w.alloc (.cells #[.slice none 0 0, .slice none 0 0] 67)) := (Below.refl _ _).alloc (Nat.le_refl _) _
  have hT : (w.alloc (.cells #[.slice none 0 0, .slice none 0 0] 67)).heap[w.heap.size]? = some (.cells #[.slice none 0 0, .slice none 0 0] 67 (0, 0)) := World.alloc_heap_new w _
  have hs4 : size < 18446744073709551616 := by have := hf.2.2; omega
  go_enter Try.func108, Try.ntmps108
  go_wp2_with fail
  generalize w.alloc (.cells #[.slice none 0 0, .slice none 0 0] 67) = w0 at hg0 hT ⊢
  refine (snew_ok 4800 w0 (by omega) (by omega) (by omega)).mono ?_
  rintro e w1 ⟨⟨sb, bb, cs, rfl, hseg, hsb, hbb⟩, hg1⟩
  rw [show (4800 / 8 : Nat) = 600 from rfl] at hseg
  have hlen : (List.replicate 600 0).length = 600 := List.length_replicate ..
  have hfm := format_ok hseg size (by rw [hlen]; exact hf) hs4
  rw [hlen] at hfm
  go_wp2_with fail
  refine hfm.mono ?_
  rintro e w2 ⟨rfl, ⟨cs2, hseg2⟩, ho2⟩
  have hg01 := hg0.trans hg1
  have hsz0 := hg0.size
  have hT2 := ho2.heap (hg1.heap hT) (by have := lt_of_heap hT; omega)
  have hg02 : Grow w w2 := Below.trans hg01 (ho2.below hg01.size (fun k hk => by omega))
  clear hfm hseg ho2 hg1 hg01 hT hg0
  go_wp2_with fail
  refine (rformat_ok w2 size hf).mono ?_
  rintro e w3 ⟨g, rfl, hgb, hgc, hg3⟩
  have hseg3 := hseg2.grow hg3
  have hg03 := hg02.trans hg3
  have hT3 := hg3.heap hT2
  have hT2' := hT2
  clear hseg2 hg02 hT2
  go_wp2_with fail
  refine (new_call hseg3).mono ?_
  rintro e w4 ⟨v, M, rfl, htx, hg4⟩
  have hg04 := hg03.trans hg4
  have hT4 := hg4.heap hT3
  have hgl := lt_of_heap hgc
  have hgc4 := hg4.heap hgc
  have hMb := htx.base
  have hgw : w.heap.size < g := by have := lt_of_heap hT2'; omega
  have hnums : Nums (fun b => b < w3.heap.size ∧ b ≠ w.heap.size) w4 (some ⟨g, 0, none⟩) (fmtW 600 size) :=
    Row.of_block hgc4 ⟨hgl, by omega⟩ (by simp [u64s]) (fun j u hj => by simpa using hj)
  have hTM : ¬ M w.heap.size := fun h => by have := hMb _ h; have := lt_of_heap hT3; omega
  clear hT2'
  have hb4 := hg4.size
  have hb3 := lt_of_heap hT3
  clear hgc hg3 hgc4 hseg3 hg03 hT3 hg4
  have hg5 : Grow w4 (w4.alloc (.cells #[.slice (some ⟨g, 0, none⟩) 600 600, .slice none 0 0] 67)) := (Below.refl _ _).alloc (Nat.le_refl _) _
  have hX5 := World.alloc_heap_new w4 (.cells #[.slice (some ⟨g, 0, none⟩) 600 600, .slice none 0 0] 67)
  have hMX : ¬ M w4.heap.size := fun h => by have := htx.lt _ h; omega
  have hn5 := hnums.grow hg5
  have htx5 := htx.grow hg5
  have hT5 := hg5.heap hT4
  have hg05 := hg04.trans hg5
  have hXb : w3.heap.size ≤ w4.heap.size := hb4
  clear htx hnums hT4 hg04
  have hWl := fmtW_length 600 size
  generalize hWf : fmtW 600 size = W at *
  have HWf := Lib.hid hWf
  clear hWf
  go_wp2_with fail
  generalize w4.alloc (.cells #[.slice (some ⟨g, 0, none⟩) 600 600, .slice none 0 0] 67) = w5 at hg5 hX5 hn5 htx5 hT5 hg05 ⊢
  generalize hX : w4.heap.size = X at *
  generalize hBs : w3.heap.size = base at *
  have hbase : w.heap.size ≤ base := by omega
  go_loopw [11] (fun i wr => ∃ (k : Nat) (M' : Nat → Prop) (B : Option Addr) (d : Nat), k ≤ l.length ∧ k ≤ 60 ∧ i = .int .i64 (k : Int) ∧ Grow w wr ∧ TxAt wr base v M' (fillS ⟨W, []⟩ (l.take k)) ∧
      Nums (fun b => b < base ∧ b ≠ w.heap.size) wr (some ⟨g, 0, none⟩) W ∧ Puts (fun b => ¬ M' b ∧ b ≠ X ∧ b ≠ w.heap.size) wr B (fillS ⟨W, []⟩ (l.take k)).p ∧ (B = none → d = 0) ∧
      wr.heap[X]? = some (.cells #[.slice (some ⟨g, 0, none⟩) 600 600, .slice B (fillS ⟨W, []⟩ (l.take k)).p.length d] 67 (0, 0)) ∧ wr.heap[w.heap.size]? = some (.cells #[.slice none 0 0, .slice none 0 0] 67 (0, 0)) ∧ ¬ M' X)
    (fun i _ => l.length - (intOf i).toNat)
  case atStart => exact ⟨0, M, none, 0, Nat.zero_le _, Nat.zero_le _, rfl, hg05, htx5, hn5, Row.empty, fun _ => rfl, hX5, hT5, hMX⟩
  case round =>
    obtain ⟨k, M', B, d, hk, hk60, rfl, hg, htk, hnk, hpk, hBd, hXk, hTk, hMk⟩ := hrel
    clear hg05 htx5 hn5 hX5 hT5 hMX hTM hMb hg5
    by_cases hlt : k < l.length ∧ k < 60
    · obtain ⟨hl1, hl2⟩ := hlt
      have hrow := hl.grow hg
      obtain ⟨b, o, rfl, hbw, hc⟩ := hrow.pos (by omega) (by omega)
      have hx1 := hc _ _ (puts_get hl1).1
      have hx2 := hc _ _ (puts_get hl1).2
      rw [← Nat.add_assoc] at hx2
      have hbd := hx (l.getD k (0, 0)) (by
        rw [List.getD_eq_getElem?_getD, List.getElem?_eq_getElem hl1]
        exact List.getElem_mem hl1)
      have hts := take_succ_getD' hl1
      have hnx := fillS_snoc ⟨W, []⟩ (l.take k) (l.getD k (0, 0))
      rw [← hts] at hnx
      have hpl := fillS_p ⟨W, []⟩ (l.take k)
      have hWk := fillS_W ⟨W, []⟩ (l.take k)
      have hlk : (l.take k).length ≤ 60 := by rw [List.length_take]; omega
      simp only [List.length_nil, Nat.zero_add] at hpl
      have HNX := Lib.hid hnx
      have HL := Lib.hid hl
      have HX := Lib.hid hx
      clear hc hrow hts hnx hl hx
      generalize fillS ⟨W, []⟩ (l.take k) = σ at *
      generalize l.getD k (0, 0) = q at *
      obtain ⟨p1, p2⟩ := q
      simp only at hbd hx1 hx2
      obtain ⟨hp1, hp2⟩ := hbd
      have g0 : decide ((k : Int) < l.length) = true := decide_eq_true (by omega)
      have g1 : decide ((k : Int) < 60) = true := decide_eq_true (by omega)
      go_wp2
      go_still_tail 11, (by kernel_rfl)
      change wpList _ _ _ _ _ wr.drew
      have htk' := htk.grow (grow_drew wr)
      have hnk' := hnk.grow (grow_drew wr)
      have hpk' := hpk.grow (grow_drew wr)
      have hXk' := (grow_drew wr).heap hXk
      have hTk' := (grow_drew wr).heap hTk
      have hx1' : wr.drew.cell? ⟨b, o + k * 2, none⟩ = some (.int .u64 (p1 : Int)) := hx1
      have hx2' : wr.drew.cell? ⟨b, o + k * 2 + 1, none⟩ = some (.int .u64 (p2 : Int)) := hx2
      have hg' : Grow w wr.drew := hg.drew
      clear htk hnk hpk hXk hTk hx1 hx2 hg
      generalize wr.drew = wr' at htk' hnk' hpk' hXk' hTk' hx1' hx2' hg' ⊢
      go_wp2_with fail
      refine (store_call htk' p1 p2 hp1 hp2 (by omega)).mono ?_
      rintro e wn ⟨rfl, M2, htn, hon, hMn⟩
      have hMb' := htk'.base
      have hXl := lt_of_heap hXk'
      have hnn := hnk'.only hon (fun b hb hS => by have := hMb' _ hb; omega)
      have hpn := hpk'.past2 hon hMn
      have hXn := hon.heap hXk' hMk
      have hTn := hon.heap hTk' (fun h => by have := hMb' _ h; omega)
      have hnb : ¬ M' b := fun h => by have := hMb' _ h; omega
      have hx1 : wn.cell? ⟨b, o + k * 2, none⟩ = some (.int .u64 (p1 : Int)) := by
        obtain ⟨ob, hob, -⟩ := cells_of_cell hx1'
        exact (World.cell?_of_block ((hon.heap hob hnb).trans hob.symm)).trans hx1'
      have hx2 : wn.cell? ⟨b, o + k * 2 + 1, none⟩ = some (.int .u64 (p2 : Int)) := by
        obtain ⟨ob, hob, -⟩ := cells_of_cell hx2'
        exact (World.cell?_of_block ((hon.heap hob hnb).trans hob.symm)).trans hx2'
      have hgn : Grow w wn := Below.trans hg' (hon.below hg'.size (fun k hk => by have := hMb' _ hk; omega))
      have hM2X : ¬ M2 X := fun h => by
        rcases hMn X h with h | h
        · exact hMk h
        · omega
      have hnd := htk'.nodup
      clear htk' hnk' hpk' hXk' hTk' hx1' hx2' hg' hon hMn hMk hMb' hnb hXl
      have xc0 : wn.cell? ⟨X, 0, none⟩ = some (.slice (some ⟨g, 0, none⟩) 600 600) := by rw [cell_of_heap hXn]; rfl
      have xc1 : wn.cell? ⟨X, 1, none⟩ = some (.slice B σ.p.length d) := by rw [cell_of_heap hXn]; rfl
      go_wp2
      go_still_tail 11, (by kernel_rfl)
      change wpList _ _ _ _ _ wn.drew
      have htn' := htn.grow (grow_drew wn)
      have hnn' := hnn.grow (grow_drew wn)
      have hpn' := hpn.grow (grow_drew wn)
      have hXn' := (grow_drew wn).heap hXn
      have hTn' := (grow_drew wn).heap hTn
      have hgn' : Grow w wn.drew := hgn.drew
      clear htn hnn hpn hXn hTn hx1 hx2 hgn xc0 xc1
      generalize wn.drew = wm at htn' hnn' hpn' hXn' hTn' hgn' ⊢
      rw [← hWk] at hnn'
      have hrs := rtx_store (c := 600) (d := d) (x := p2) hnn' hpn' hBd p1 hp1 (by rw [hWk]; omega) (by omega) hnd
      rw [hWk, hWl] at hrs
      go_wp2_with fail
      refine hrs.mono ?_
      rintro e wz ⟨⟨B', d', rfl, hBd', hpz⟩, hgz⟩
      have hXz := hgz.heap hXn'
      have hTz := hgz.heap hTn'
      have hnz := hnn'.grow hgz
      have htz := htn'.grow hgz
      have hgz0 := hgn'.trans hgz
      have hml := htn'.lt
      have hXl := lt_of_heap hXn'
      have hpz' : Puts (fun b => ¬ M2 b ∧ b ≠ X ∧ b ≠ w.heap.size) wz B' (σ.store p1 p2).p := hpz.mono fun b _ hb => by
        rcases hb with hb | hb
        · exact hb
        · exact ⟨fun h => by have := hml _ h; omega, fun h => by omega, fun h => by have := lt_of_heap hTn'; omega⟩
      have xc0 : wz.cell? ⟨X, 0, none⟩ = some (.slice (some ⟨g, 0, none⟩) 600 600) := by rw [cell_of_heap hXz]; rfl
      have xc1 : wz.cell? ⟨X, 1, none⟩ = some (.slice B σ.p.length d) := by rw [cell_of_heap hXz]; rfl
      have xf0 := frozen_of_heap hXz 0
      have xf1 := frozen_of_heap hXz 1
      have HXZ := Lib.hid (heap_setCell_row (heap_setCell_row hXz (i := 0) (.slice (some ⟨g, 0, none⟩) 600 600)) (i := 1) (.slice B' (σ.store p1 p2).p.length d'))
      clear hpz hrs htn' hnn' hpn' hXn' hTn' hgn' hgz hml hXl hnd hXz
      rw [hWk] at hnz
      generalize hQ : σ.store p1 p2 = σ' at *
      go_wp2
      go_roundw
      case rel =>
        have hoX : Only (fun b => b = X) wz ((wz.setCell ⟨X, 0, none⟩ (.slice (some ⟨g, 0, none⟩) 600 600)).setCell ⟨X, 1, none⟩ (.slice B' σ'.p.length d')) :=
          Only.setCell (S := fun b => b = X) (p := ⟨X, 1, none⟩) (Only.setCell (S := fun b => b = X) (p := ⟨X, 0, none⟩) (Only.refl _ _) rfl _) rfl _
        refine ⟨k + 1, M2, B', d', by omega, by omega, by go_num, Below.trans hgz0 (hoX.below hgz0.size (fun b hb => by omega)), ?_, hnz.only hoX (fun b hb hS => by omega), ?_, hBd', ?_, hoX.heap hTz (by omega), hM2X⟩
        · rw [HNX.out]
          exact htz.other hoX (fun b hb => by subst hb; exact ⟨hM2X, by omega⟩)
        · rw [HNX.out]
          exact hpz'.only hoX (fun b hb hS => hS.2.1 hb)
        · rw [HNX.out]
          exact HXZ.out
      case measure => simp [intOf]; omega
    · have htk2 : l.take k = l.take 60 := by rw [List.take_eq_take_iff]; omega
      rw [htk2] at htk hpk hXk
      have hWk := fillS_W ⟨W, []⟩ (l.take 60)
      generalize hSg : fillS ⟨W, []⟩ (l.take 60) = σ at *
      have HSg := Lib.hid hSg
      clear hSg
      have hMb' := htk.base
      have hfin : ∀ (wr : World), Grow w wr → TxAt wr base v M' σ → Nums (fun b => b < base ∧ b ≠ w.heap.size) wr (some ⟨g, 0, none⟩) W → Puts (fun b => ¬ M' b ∧ b ≠ X ∧ b ≠ w.heap.size) wr B σ.p →
          Grow w wr ∧ Pair wr base v (.agg #[.slice (some ⟨g, 0, none⟩) 600 600, .slice B σ.p.length d]) M' σ := by
        intro wr h1 h2 h3 h4
        refine ⟨h1, h2, some ⟨g, 0, none⟩, 600, B, d, by rw [hWk, hWl], ?_, h4.mono (fun b _ hb => hb.1), hBd⟩
        rw [hWk]
        exact h3.mono (fun b _ hb hm => by have := hMb' _ hm; omega)
      have xc0 : wr.cell? ⟨X, 0, none⟩ = some (.slice (some ⟨g, 0, none⟩) 600 600) := by rw [cell_of_heap hXk]; rfl
      have xc1 : wr.cell? ⟨X, 1, none⟩ = some (.slice B σ.p.length d) := by rw [cell_of_heap hXk]; rfl
      have tc0 : wr.cell? ⟨w.heap.size, 0, none⟩ = some (.slice none 0 0) := by rw [cell_of_heap hTk]; rfl
      have tc1 : wr.cell? ⟨w.heap.size, 1, none⟩ = some (.slice none 0 0) := by rw [cell_of_heap hTk]; rfl
      have tf0 := frozen_of_heap hTk 0
      have tf1 := frozen_of_heap hTk 1
      have HF := Lib.hid hfin
      have HLT := Lib.hid hlt
      clear hfin hl hx hXk hMb' htk2
      by_cases hkl : k < l.length
      · have g0 : decide ((k : Int) < l.length) = true := decide_eq_true (by omega)
        have g1 : decide ((k : Int) < 60) = false := decide_eq_false (by have := HLT.out; omega)
        clear hlt
        go_wp2
        go_still_tail 3, (by kernel_rfl)
        change wpList _ _ _ _ _ wr.drew
        have hT6 := (grow_drew wr).heap hTk
        have tc0' : wr.drew.cell? ⟨w.heap.size, 0, none⟩ = some (.slice none 0 0) := tc0
        have tc1' : wr.drew.cell? ⟨w.heap.size, 1, none⟩ = some (.slice none 0 0) := tc1
        have tf0' : wr.drew.frozen? ⟨w.heap.size, 0, none⟩ = false := tf0
        have tf1' : wr.drew.frozen? ⟨w.heap.size, 1, none⟩ = false := tf1
        have tx6 := htk.grow (grow_drew wr)
        have n6 := hnk.grow (grow_drew wr)
        have p6 := hpk.grow (grow_drew wr)
        have g6 : Grow w wr.drew := hg.drew
        clear xc0 xc1 tc0 tc1 tf0 tf1 hTk htk hnk hpk hg
        generalize wr.drew = w6 at *
        go_wp2
        have hoT : Only (fun b => b = w.heap.size) w6 ((w6.setCell ⟨w.heap.size, 0, none⟩ (.slice (some ⟨g, 0, none⟩) 600 600)).setCell ⟨w.heap.size, 1, none⟩ (.slice B σ.p.length d)) :=
          Only.setCell (S := fun b => b = w.heap.size) (p := ⟨w.heap.size, 1, none⟩) (Only.setCell (S := fun b => b = w.heap.size) (p := ⟨w.heap.size, 0, none⟩) (Only.refl _ _) rfl _) rfl _
        have hbw := tx6.base
        obtain ⟨r1, r2⟩ := HF.out _ (Below.trans g6 (hoT.below g6.size (fun b hb => by omega))) (tx6.other67 hoT (fun b hb => by subst hb; exact ⟨fun h => by have := hbw _ h; omega, _, _, hT6⟩)) (n6.only hoT (fun b hb hS => hS.2 hb)) (p6.only hoT (fun b hb hS => hS.2.2 hb))
        exact ret_formed (g := w.heap.size) rfl rfl rfl (heap_setCell_row (heap_setCell_row hT6 (i := 0) (.slice (some ⟨g, 0, none⟩) 600 600)) (i := 1) (.slice B σ.p.length d)) rfl ⟨base, v, _, M', rfl, by rw [HWf.out, HSg.out]; exact r2, hbase, r1⟩
      · have g0 : decide ((k : Int) < l.length) = false := decide_eq_false (by omega)
        clear hlt
        go_wp2
        go_still_tail 3, (by kernel_rfl)
        change wpList _ _ _ _ _ wr.drew
        have hT6 := (grow_drew wr).heap hTk
        have tc0' : wr.drew.cell? ⟨w.heap.size, 0, none⟩ = some (.slice none 0 0) := tc0
        have tc1' : wr.drew.cell? ⟨w.heap.size, 1, none⟩ = some (.slice none 0 0) := tc1
        have tf0' : wr.drew.frozen? ⟨w.heap.size, 0, none⟩ = false := tf0
        have tf1' : wr.drew.frozen? ⟨w.heap.size, 1, none⟩ = false := tf1
        have tx6 := htk.grow (grow_drew wr)
        have n6 := hnk.grow (grow_drew wr)
        have p6 := hpk.grow (grow_drew wr)
        have g6 : Grow w wr.drew := hg.drew
        clear xc0 xc1 tc0 tc1 tf0 tf1 hTk htk hnk hpk hg
        generalize wr.drew = w6 at *
        go_wp2
        have hoT : Only (fun b => b = w.heap.size) w6 ((w6.setCell ⟨w.heap.size, 0, none⟩ (.slice (some ⟨g, 0, none⟩) 600 600)).setCell ⟨w.heap.size, 1, none⟩ (.slice B σ.p.length d)) :=
          Only.setCell (S := fun b => b = w.heap.size) (p := ⟨w.heap.size, 1, none⟩) (Only.setCell (S := fun b => b = w.heap.size) (p := ⟨w.heap.size, 0, none⟩) (Only.refl _ _) rfl _) rfl _
        have hbw := tx6.base
        obtain ⟨r1, r2⟩ := HF.out _ (Below.trans g6 (hoT.below g6.size (fun b hb => by omega))) (tx6.other67 hoT (fun b hb => by subst hb; exact ⟨fun h => by have := hbw _ h; omega, _, _, hT6⟩)) (n6.only hoT (fun b hb hS => hS.2 hb)) (p6.only hoT (fun b hb hS => hS.2.2 hb))
        exact ret_formed (g := w.heap.size) rfl rfl rfl (heap_setCell_row (heap_setCell_row hT6 (i := 0) (.slice (some ⟨g, 0, none⟩) 600 600)) (i := 1) (.slice B σ.p.length d)) rfl ⟨base, v, _, M', rfl, by rw [HWf.out, HSg.out]; exact r2, hbase, r1⟩
end Go.Proofs.Ck
