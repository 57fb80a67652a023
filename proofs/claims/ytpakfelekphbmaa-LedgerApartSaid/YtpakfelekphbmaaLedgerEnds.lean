/- LedgerEnds: the walk. -/
import Derived.Test.YtpakfelekphbmaaLedgerLast
import Derived.Test.YtpakfelekphbmaaOpenB
namespace Go.Proofs.Ck
open Go Go.RowKit

def sliceLen : Value → Nat
  | .slice _ n _ => n
  | _ => 0
theorem setL_self {L : Nat → List Nat} {c : Nat} : setL L c (L c) = L := by
  funext d
  unfold setL
  split
  · next h => rw [h]
  · rfl
theorem Led.gone {f : Nat → Nat} {all : List Nat} {L : Nat → List Nat} {c off : Nat} {l : List Nat} (h : Led f all (setL L c l)) (hc : c < 8) (hin : off ∈ l) : Led (unlinkF f c off) all (setL L c (l.filter (· != off))) := by
  have h1 := h.unlink (c := c) (off := off) hc (by unfold setL; rw [if_pos rfl]; exact hin)
  have e : (fun d => if d = c then (setL L c l c).filter (· != off) else setL L c l d) = setL L c (l.filter (· != off)) := by
    funext d
    unfold setL
    by_cases hd : d = c
    · simp only [if_pos hd, if_true]
    · simp only [if_neg hd]
  rw [e] at h1
  exact h1

set_option maxRecDepth 100000 in
set_option maxHeartbeats 8000000 in
theorem ledgerEnds {w : World} {D1 D2 D3 : Option Addr} {m1 m2 m3 : Nat} {l3 : List Bool} (hD3 : Row (fun b => b < w.heap.size) w D3 l3.length 1 (bls l3)) (_hl3 : l3.length ≤ maxLen) {l1 : List (Nat × Nat × Nat)} {l2 : List (Nat × Nat)} (hD1 : Row (fun b => b < w.heap.size) w D1 l1.length 3 (pcs l1)) (hcap : l1.length ≤ m1) (hl1 : l1.length ≤ 9223372036854775807)
    (hb1 : ∀ q ∈ l1, q.1 < 256 ∧ q.2.1 < 256 ∧ q.2.2 < 65536) (hD2 : Row (fun b => b < w.heap.size) w D2 l2.length 2 (stps l2)) (hl2 : l2.length ≤ 9223372036854775807) (hb2 : ∀ q ∈ l2, q.1 < 256 ∧ q.2 < 256) :
    Calls Try.prog 33 #[.slice D1 l1.length m1, .slice D2 l2.length m2, .slice D3 l3.length m3] w fun e w' => e = .returned (.bool true) ∧ Grow w w' := by
  have al : Try.prog.arrayLen 122 = 8 := by kernel_rfl
  go_enter Try.func33, Try.ntmps33
  go_wp2_with fail
  refine (awake09 w).mono ?_
  rintro e w1 ⟨rfl, hg⟩
  have hlaid := laid_call (w0 := w) (K0 := fun w X => Row (fun b => ¬ X b) w D2 l2.length 2 (stps l2) ∧ Row (fun b => ¬ X b) w D3 l3.length 1 (bls l3)) hg ((hD1.grow hg).mono fun b hb _ => hb) hcap hl1 hb1 (stable_row.and stable_row) ⟨(hD2.grow hg).mono fun b hb hh => (by have := hg.size; omega), (hD3.grow hg).mono fun b hb hh => (by have := hg.size; omega)⟩
  obtain ⟨hled, hne, -, h21⟩ := laid_led l1
  unfold LaidP at hlaid
  generalize (laidS l1).load = f at hlaid hled
  generalize atsL l1 = all at hlaid hled hne h21
  clear hD1 hD2 hD3 hb1 hl1 hg
  go_wp2_with fail
  refine hlaid.mono ?_
  rintro e w2 ⟨base, p, A, cA, rfl, L2⟩
  clear hlaid
  have hpl := played_L (cA := cA) (m := m2) L2 (stable_row.and stable_row) rfl hne h21 hled (fun w X h => h.1) hb2 hl2
  have hledk := hled.steps hne (l2.take 40)
  generalize stepsF all f (fun _ => []) (l2.take 40) = F at hpl hledk
  generalize stepsL all (fun _ => []) (l2.take 40) = Ls at hpl hledk
  clear L2 hb2 hl2 hled
  go_wp2_with fail
  refine hpl.mono ?_
  clear hpl
  rintro e w3 ⟨cs, rfl, hcs, L3⟩
  have hone : cs.all (·.oneCell') = true := by
    obtain ⟨X, hX, -⟩ := L3.know
    rw [Array.all_eq_true]
    intro i hi
    obtain ⟨v, hv, A, c, rfl, -⟩ := hX i (by omega)
    rw [Array.getElem?_eq_getElem hi, Option.some.injEq] at hv
    rw [hv]
    rfl
  have L4 := L3.alloc #[.slice none 0 0, .slice none 0 0, .slice none 0 0, .slice none 0 0, .slice none 0 0, .slice none 0 0, .slice none 0 0, .slice none 0 0] 122
  have hbx := L4.box (List.mem_cons_self ..)
  have L5 := L4.setRow cs
  clear L3 L4
  go_wp2_with (refine wpList_store_row rfl 122 (.tmp 10) (.tmp 27) rfl w3.heap.size cs rfl rfl 122 _ hbx (info122.trans (by rw [hcs])) (by rw [hcs]; rfl) hone ?_)
  generalize (w3.alloc (Obj.cells #[.slice none 0 0, .slice none 0 0, .slice none 0 0, .slice none 0 0, .slice none 0 0, .slice none 0 0, .slice none 0 0, .slice none 0 0] 122)).setRow w3.heap.size cs = w5 at *
  generalize w3.heap.size = q8 at *
  replace L5 := L5.less (L := fun w X => Slots cs Ls w X ∧ Row (fun b => ¬ X b) w D3 l3.length 1 (bls l3)) (stable_slots.and stable_row) (fun w X h => ⟨h.1, h.2.2.2⟩)
  clear hbx hone
  go_loopw [12] (fun i wr => ∃ (d : Nat) (G : Nat → Nat) (Lc : Nat → List Nat), d ≤ 8 ∧ i = .int .i64 (d : Int) ∧ Led G all Lc ∧ (∀ e, d ≤ e → Lc e = Ls e) ∧ Law base (fun _ => False) w wr (.pointer p) G [(q8, cs, 122)] (fun w X => Slots cs Ls w X ∧ Row (fun b => ¬ X b) w D3 l3.length 1 (bls l3))) (fun i _ => 8 - (intOf i).toNat)
  case atStart => exact ⟨0, F, Ls, Nat.zero_le _, rfl, hledk, fun _ _ => rfl, L5⟩
  case round =>
    clear L5 hledk
    obtain ⟨d, G, Lc, hd, rfl, hledc, hsame, L6⟩ := hrel
    by_cases hd8 : d < 8
    · have g0 : decide ((d : Int) < 8) = true := decide_eq_true (by omega)
      have gd : (0 : Int) ≤ (d : Int) ∧ (d : Int) < 8 := by omega
      obtain ⟨X, hX⟩ := L6.know
      obtain ⟨vd, hvd, Ad, cd, rfl, -, hrd⟩ := hX.1 d hd8
      have xd := L6.cell (List.mem_cons_self ..) d
      rw [hvd] at xd
      have hcd := hsame d (Nat.le_refl _)
      have hfew := hledc.few hd8
      rw [hcd] at hfew
      have L7 := L6
      have hst : Law base (fun _ => False) w wr (.pointer p) G [(q8, cs, 122)] (fun w X => Row (fun b => ¬ X b) w Ad (Ls d).length 1 (u64s (Ls d)) ∧ Slots cs Ls w X ∧ Row (fun b => ¬ X b) w D3 l3.length 1 (bls l3)) := L7.less (stable_row.and (stable_slots.and stable_row)) (fun w X h => by
        obtain ⟨v', hv', A', c', e', -, hr⟩ := h.1 d hd8
        rw [hvd] at hv'
        cases hv'
        cases e'
        exact ⟨hr, h⟩)
      have hled0 : Led G all (setL Lc d (Ls d)) := by rw [← hcd, setL_self]; exact hledc
      clear L6 L7 hX hrd X hledc
      go_wp2_with fail
      clear xd g0
      go_loopw [13, 14] (fun t13 t14 wx => ∃ (k : Nat) (left : List Nat) (Al : Option Addr) (cl : Nat) (H : Nat → Nat), t13 = .slice Al left.length cl ∧ t14 = .int .i64 (k : Int) ∧ k + left.length ≤ 100 ∧ Led H all (setL Lc d left) ∧ Law base (fun _ => False) w wx (.pointer p) H [(q8, cs, 122)] (fun w X => Row (fun b => ¬ X b) w Al left.length 1 (u64s left) ∧ Slots cs Ls w X ∧ Row (fun b => ¬ X b) w D3 l3.length 1 (bls l3))) (fun t13 _ _ => sliceLen t13)
      case atStart => exact ⟨0, Ls d, Ad, cd, G, rfl, rfl, by omega, hled0, hst⟩
      case round =>
        clear hst hled0
        obtain ⟨k, left, Al, cl, H, rfl, rfl, hk, hled, L8⟩ := hrel
        by_cases hpos : 0 < left.length
        · have g1 : decide ((0 : Int) < (left.length : Int)) = true := decide_eq_true (by omega)
          have g1n : decide (0 < left.length) = true := decide_eq_true hpos
          obtain ⟨X, hX⟩ := L8.know
          obtain ⟨bl, ol, rfl, -, hcl⟩ := hX.1.pos hpos (by omega)
          have x0 := hcl 0 _ (u64s_get hpos)
          rw [Nat.add_zero] at x0
          have h0in : left.getD 0 0 ∈ left := by rw [List.getD_eq_getElem?_getD, List.getElem?_eq_getElem hpos]; exact List.getElem_mem _
          obtain ⟨m, hm⟩ : ∃ m, left.length - 1 = m := ⟨_, rfl⟩
          have x1 := hcl m _ (u64s_get (by omega))
          have h1in : left.getD m 0 ∈ left := by rw [List.getD_eq_getElem?_getD, List.getElem?_eq_getElem (by omega)]; exact List.getElem_mem _
          have n1' : IntKind.i64.wrap ((left.length : Int) - 1) = (m : Int) := by rw [IntKind.wrap_i64]; omega
          have gm0 : (0 : Int) ≤ m := by omega
          have gm1 : (m : Int) < left.length := by omega
          have gz : (0 : Int) < left.length := by omega
          have hD := hX.2.2
          clear hcl hX
          generalize left.getD 0 0 = o0 at *
          generalize left.getD m 0 = o1 at *
          by_cases hkl : k < l3.length
          · have g2 : decide ((k : Int) < (l3.length : Int)) = true := decide_eq_true (by omega)
            have gk0 : (0 : Int) ≤ k := by omega
            have gk1 : (k : Int) < l3.length := by omega
            obtain ⟨b3, o3, rfl, -, hc3⟩ := hD.pos (by omega) (by omega)
            have x3 := hc3 k _ (bls_get hkl)
            clear hc3 hD X
            generalize l3.getD k false = bb at *
            cases bb
            · clear x1 n1' gm0 gm1 hm
              have hled2 := hled.gone hd8 h0in
              have hltl : (left.filter (· != o0)).length < left.length := by have := @wo_len_lt left o0; rw [decide_eq_true h0in] at this; exact of_decide_eq_true this
              have HU := L8.unlinkL hled hd8 (off := o0) (by unfold setL; rw [if_pos rfl]; exact h0in)
              go_wp2_with fail
              refine HU.mono ?_
              rintro e wa ⟨rfl, L9⟩
              clear HU L8
              obtain ⟨left', hl'⟩ : ∃ r, left.filter (· != o0) = r := ⟨_, rfl⟩
              obtain ⟨n', hn'⟩ : ∃ r, left'.length = r := ⟨_, rfl⟩
              rw [hl'] at hled2 hltl
              rw [hn'] at hltl
              obtain ⟨X, hX⟩ := L9.know
              have HW := wo_call (c := cl) hX.1 rfl (by omega) o0 hl' hn'
              clear hX X
              go_wp2_with fail
              refine HW.mono ?_
              rintro e wb ⟨A', c', rfl, -, hr', hg'⟩
              have L10 := L9.addRow hg' hr'
              clear HW L9 hr' hg'
              have L11 := L10.less (L := fun w X => Row (fun b => ¬ X b) w A' n' 1 (u64s left') ∧ Slots cs Ls w X ∧ Row (fun b => ¬ X b) w (some ⟨b3, o3, none⟩) l3.length 1 (bls l3)) (stable_row.and (stable_slots.and stable_row)) (fun w X h => ⟨h.1, h.2.2⟩)
              clear L10
              have hcc : setL Lc d left' d = left' := if_pos rfl
              obtain ⟨X, hX⟩ := L11.know
              have hmem : ∀ a ∈ left', a < 18446744073709551616 := fun a ha => by have := hled2.mem hd8 (a := a) (by rw [hcc]; exact ha); omega
              have HC := L11.checkL (d : Int) (cA := c') hX.1 hn' hmem (by omega)
              have htold := hled2.lists.told hled2.room hd8
              rw [hcc] at htold
              rw [htold] at HC
              clear hX X hmem htold
              go_wp2_with fail
              refine HC.mono ?_
              rintro e wc ⟨rfl, L12⟩
              clear HC L11
              go_wp2
              go_roundw
              case rel => exact ⟨k + 1, left', A', c', _, by rw [hn'], by go_num, by omega, hled2, by rw [hn']; exact L12⟩
              case measure => simp [sliceLen]; omega
            · 
              have hled2 := hled.gone hd8 h1in
              have hltl : (left.filter (· != o1)).length < left.length := by have := @wo_len_lt left o1; rw [decide_eq_true h1in] at this; exact of_decide_eq_true this
              have HU := L8.unlinkL hled hd8 (off := o1) (by unfold setL; rw [if_pos rfl]; exact h1in)
              go_wp2_with fail
              refine HU.mono ?_
              rintro e wa ⟨rfl, L9⟩
              clear HU L8
              obtain ⟨left', hl'⟩ : ∃ r, left.filter (· != o1) = r := ⟨_, rfl⟩
              obtain ⟨n', hn'⟩ : ∃ r, left'.length = r := ⟨_, rfl⟩
              rw [hl'] at hled2 hltl
              rw [hn'] at hltl
              obtain ⟨X, hX⟩ := L9.know
              have HW := wo_call (c := cl) hX.1 rfl (by omega) o1 hl' hn'
              clear hX X
              go_wp2_with fail
              refine HW.mono ?_
              rintro e wb ⟨A', c', rfl, -, hr', hg'⟩
              have L10 := L9.addRow hg' hr'
              clear HW L9 hr' hg'
              have L11 := L10.less (L := fun w X => Row (fun b => ¬ X b) w A' n' 1 (u64s left') ∧ Slots cs Ls w X ∧ Row (fun b => ¬ X b) w (some ⟨b3, o3, none⟩) l3.length 1 (bls l3)) (stable_row.and (stable_slots.and stable_row)) (fun w X h => ⟨h.1, h.2.2⟩)
              clear L10
              have hcc : setL Lc d left' d = left' := if_pos rfl
              obtain ⟨X, hX⟩ := L11.know
              have hmem : ∀ a ∈ left', a < 18446744073709551616 := fun a ha => by have := hled2.mem hd8 (a := a) (by rw [hcc]; exact ha); omega
              have HC := L11.checkL (d : Int) (cA := c') hX.1 hn' hmem (by omega)
              have htold := hled2.lists.told hled2.room hd8
              rw [hcc] at htold
              rw [htold] at HC
              clear hX X hmem htold
              go_wp2_with fail
              refine HC.mono ?_
              rintro e wc ⟨rfl, L12⟩
              clear HC L11
              go_wp2
              go_roundw
              case rel => exact ⟨k + 1, left', A', c', _, by rw [hn'], by go_num, by omega, hled2, by rw [hn']; exact L12⟩
              case measure => simp [sliceLen]; omega
          · have g2 : decide ((k : Int) < (l3.length : Int)) = false := decide_eq_false (by omega)
            clear x1 n1' gm0 gm1 hm hD X
            have hled2 := hled.gone hd8 h0in
            have hltl : (left.filter (· != o0)).length < left.length := by have := @wo_len_lt left o0; rw [decide_eq_true h0in] at this; exact of_decide_eq_true this
            have HU := L8.unlinkL hled hd8 (off := o0) (by unfold setL; rw [if_pos rfl]; exact h0in)
            go_wp2_with fail
            refine HU.mono ?_
            rintro e wa ⟨rfl, L9⟩
            clear HU L8
            obtain ⟨left', hl'⟩ : ∃ r, left.filter (· != o0) = r := ⟨_, rfl⟩
            obtain ⟨n', hn'⟩ : ∃ r, left'.length = r := ⟨_, rfl⟩
            rw [hl'] at hled2 hltl
            rw [hn'] at hltl
            obtain ⟨X, hX⟩ := L9.know
            have HW := wo_call (c := cl) hX.1 rfl (by omega) o0 hl' hn'
            clear hX X
            go_wp2_with fail
            refine HW.mono ?_
            rintro e wb ⟨A', c', rfl, -, hr', hg'⟩
            have L10 := L9.addRow hg' hr'
            clear HW L9 hr' hg'
            have L11 := L10.less (L := fun w X => Row (fun b => ¬ X b) w A' n' 1 (u64s left') ∧ Slots cs Ls w X ∧ Row (fun b => ¬ X b) w D3 l3.length 1 (bls l3)) (stable_row.and (stable_slots.and stable_row)) (fun w X h => ⟨h.1, h.2.2⟩)
            clear L10
            have hcc : setL Lc d left' d = left' := if_pos rfl
            obtain ⟨X, hX⟩ := L11.know
            have hmem : ∀ a ∈ left', a < 18446744073709551616 := fun a ha => by have := hled2.mem hd8 (a := a) (by rw [hcc]; exact ha); omega
            have HC := L11.checkL (d : Int) (cA := c') hX.1 hn' hmem (by omega)
            have htold := hled2.lists.told hled2.room hd8
            rw [hcc] at htold
            rw [htold] at HC
            clear hX X hmem htold
            go_wp2_with fail
            refine HC.mono ?_
            rintro e wc ⟨rfl, L12⟩
            clear HC L11
            go_wp2
            go_roundw
            case rel => exact ⟨k + 1, left', A', c', _, by rw [hn'], by go_num, by omega, hled2, by rw [hn']; exact L12⟩
            case measure => simp [sliceLen]; omega
        · have hnil : left = [] := List.length_eq_zero_iff.1 (by omega)
          subst hnil
          have g1 : decide ((0 : Int) < (([] : List Nat).length : Int)) = false := rfl
          have hcc : setL Lc d [] d = [] := if_pos rfl
          have HH := L8.headL (c := d) (x := 0) hd8 (by rw [hled.lists.head hd8, hcc]; rfl)
          go_wp2_with fail
          refine (show Calls _ _ #[_, _] _ _ from HH).mono ?_
          rintro e wa ⟨rfl, L9⟩
          clear HH L8
          have HL := L9.listL hled hd8 (l := []) (n := 0) hcc rfl
          go_wp2_with fail
          refine HL.mono ?_
          rintro e wb ⟨Ab, cb, rfl, L10⟩
          clear HL L9
          have L11 := L10.less (L := fun w X => Slots cs Ls w X ∧ Row (fun b => ¬ X b) w D3 l3.length 1 (bls l3)) (stable_slots.and stable_row) (fun w X h => h.2.2)
          clear L10
          go_wp2
          go_roundw
          case rel => exact ⟨d + 1, H, setL Lc d [], by omega, by go_num, hled, fun e he => by unfold setL; rw [if_neg (by omega)]; exact hsame e (by omega), L11⟩
          case measure => simp [intOf]; omega
    · obtain rfl : d = 8 := by omega
      have g0 : decide (((8 : Nat) : Int) < 8) = false := decide_eq_false (by omega)
      have hg := L6.done
      clear L6 hledc
      go_wp2
      go_ret
      exact ⟨rfl, hg⟩
end Go.Proofs.Ck
