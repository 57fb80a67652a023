/- IntentApart: the walk. -/
import Derived.Test.YtpakfelekphbmaaIntentBack
import Derived.Test.YtpakfelekphbmaaClientGoes
namespace Go.Proofs.Ck
open Go Go.RowKit

set_option maxRecDepth 100000 in
set_option maxHeartbeats 4000000 in
theorem intentApart {w : World} {A B : Option Addr} {n m : Nat} {l k : List (Nat × Nat)} (c d : Nat) (hc : c < 256) (hd : d < 256) (hl : Puts (fun b => b < w.heap.size) w A l) (hk : Puts (fun b => b < w.heap.size) w B k)
    (hm : l.length ≤ 9223372036854775807) (hm' : k.length ≤ 9223372036854775807)
    (hx : ∀ p ∈ l, p.1 < 18446744073709551616 ∧ p.2 < 18446744073709551616) (hx' : ∀ p ∈ k, p.1 < 18446744073709551616 ∧ p.2 < 18446744073709551616) :
    Calls Try.prog 29 #[.agg #[.int .u8 (c : Int), .int .u8 (d : Int)], .slice A l.length n, .slice B k.length m] w fun e w' => e = .returned (.bool true) ∧ Grow w w' := by
  have hga : Grow w (w.alloc (.cells #[.int .u8 (c : Int), .int .u8 (d : Int)] 104)) := (Below.refl _ _).alloc (Nat.le_refl _) _
  have hnew := World.alloc_heap_new w (.cells #[.int .u8 (c : Int), .int .u8 (d : Int)] 104)
  have al : Try.prog.arrayLen 104 = 2 := by kernel_rfl
  by_cases h1 : l.length ≤ 24
  · have t0 : decide ((24 : Int) < l.length) = false := decide_eq_false (by omega)
    by_cases h2 : k.length ≤ 24
    · have t1 : decide ((24 : Int) < k.length) = false := decide_eq_false (by omega)
      by_cases hcd : c % 8 = d % 8
      · have t2 : ((c : Int) % 8 == (d : Int) % 8) = true := by rw [beq_iff_eq]; omega
        clear hcd
        go_enter Try.func29, Try.ntmps29
        go_wp2_with fail
        generalize w.alloc (.cells #[.int .u8 (c : Int), .int .u8 (d : Int)] 104) = wa at *
        refine (awake17 wa).mono ?_
        rintro e w1 ⟨rfl, hg⟩
        have hB := hg.heap hnew
        have b0 : w1.cell? ⟨w.heap.size, 0, none⟩ = some (.int .u8 (c : Int)) := by rw [cell_of_heap hB]; rfl
        have b1 : w1.cell? ⟨w.heap.size, 1, none⟩ = some (.int .u8 (d : Int)) := by rw [cell_of_heap hB]; rfl
        have hg := hga.trans hg
        clear hB hnew hga
        go_wp2
        go_ret
        exact ⟨rfl, hg⟩
      · have t2 : ((c : Int) % 8 == (d : Int) % 8) = false := by rw [beq_eq_false_iff_ne]; omega
        have ec : IntKind.i64.wrap ((c : Int) % 8) = ((c % 8 : Nat) : Int) := by rw [IntKind.wrap_i64]; omega
        have ed : IntKind.i64.wrap ((d : Int) % 8) = ((d % 8 : Nat) : Int) := by rw [IntKind.wrap_i64]; omega
        have hc8 : c % 8 < 8 := by omega
        have hd8 : d % 8 < 8 := by omega
        generalize c % 8 = C at *
        generalize d % 8 = D at *
        have HCD := Lib.hid hcd
        clear hcd
        go_enter Try.func29, Try.ntmps29
        go_wp2_with fail
        generalize w.alloc (.cells #[.int .u8 (c : Int), .int .u8 (d : Int)] 104) = wa at *
        refine (awake17 wa).mono ?_
        rintro e w1 ⟨rfl, hg⟩
        have hB := hg.heap hnew
        have b0 : w1.cell? ⟨w.heap.size, 0, none⟩ = some (.int .u8 (c : Int)) := by rw [cell_of_heap hB]; rfl
        have b1 : w1.cell? ⟨w.heap.size, 1, none⟩ = some (.int .u8 (d : Int)) := by rw [cell_of_heap hB]; rfl
        have hg := hga.trans hg
        clear hB hnew hga
        go_wp2_with fail
        refine (formed_K (l := []) (A := none) hg Row.empty (stable_arg.and stable_arg) ⟨arg_fresh hg hl, arg_fresh hg hk⟩ fun hl1 => formed92 (c := 0) 4480 (by unfold fits; omega) hl1 (by simp) (fun p hp => by cases hp)).mono ?_
        rintro e w2 ⟨base, p, A', n1, c', B', n2, d', rfl, L2⟩
        have F0 := Lib.hid (⟨fmt_client 4480 D 0 (by omega) hd8 (by omega), fmt_client 4480 C 0 (by omega) hc8 (by omega)⟩ : fillF 4480 ([].take 60) (64 + 416 * D + 0) = 0 ∧ fillF 4480 ([].take 60) (64 + 416 * C + 0) = 0)
        clear hg b0 b1 hl hk
        generalize fillF 4480 ([].take 60) = f at L2 F0
        have hbx := logN_lt hc8 hx h1
        have hby := logN_lt hd8 hx' h2
        clear hx hx' al t2
        have L3 := L2.alloc #[.slice A' n1 c', .slice B' n2 d'] 67
        clear L2
        go_wp2_with fail
        generalize w2.alloc (Obj.cells #[.slice A' n1 c', .slice B' n2 d'] 67) = w3 at L3 ⊢
        go_wp2_with fail
        refine (L3.attachIs (att_zero hd8 F0.out.1)).mono ?_
        rintro e w4 ⟨rfl, L4⟩
        clear L3
        go_wp2_with fail
        refine (L4.pointIs 3776 hd8 (by omega) rfl).mono ?_
        rintro e w5 ⟨rfl, L5⟩
        clear L4
        have hf2 : upd (upd f (64 + 416 * D) 1) (64 + 416 * D + 8) 3776 (64 + 416 * D) = 1 ∧ upd (upd f (64 + 416 * D) 1) (64 + 416 * D + 8) 3776 (64 + 416 * D + 8) = 3776 ∧ upd (upd f (64 + 416 * D) 1) (64 + 416 * D + 8) 3776 (64 + 416 * C) = 0 := by
          refine ⟨by rw [upd_ne (by omega), upd_same], upd_same _ _ _, ?_⟩
          have := HCD.out
          rw [upd_ne (by omega), upd_ne (by omega)]
          exact F0.out.2
        generalize upd (upd f (64 + 416 * D) 1) (64 + 416 * D + 8) 3776 = f2 at *
        have HF2 := Lib.hid hf2
        clear hf2 F0
        obtain ⟨X, hX⟩ := L5.know
        go_wp2_with fail
        refine (L5.words hc8 hX.1 h1).mono ?_
        rintro e w6 ⟨Ba, ma, rfl, L6⟩
        clear L5
        clear hX
        obtain ⟨X, hX⟩ := L6.know
        go_wp2_with fail
        refine (L6.words hd8 hX.2.2 h2).mono ?_
        rintro e w7 ⟨Bb, mb, rfl, L7⟩
        clear L6
        clear hX
        obtain ⟨o, ho⟩ : ∃ o, 64 + 416 * C + 16 = o := ⟨_, rfl⟩
        obtain ⟨o', ho'⟩ : ∃ o, 64 + 416 * D + 16 = o := ⟨_, rfl⟩
        have hos : inSeg o ∧ inSeg o' := by unfold inSeg; omega
        have HO := Lib.hid ho
        have HO' := Lib.hid ho'
        clear ho ho'
        go_wp2_with fail
        refine (L7.commitL hc8 h1 HO.out).mono ?_
        rintro e w8 ⟨rfl, L8⟩
        clear L7
        have L9 := L8.alloc #[.int .u64 (o : Int), .int .u64 (l.length : Int)] 73
        clear L8
        go_wp2_with fail
        generalize w8.alloc (Obj.cells #[.int .u64 (o : Int), .int .u64 (l.length : Int)] 73) = w9 at L9 ⊢
        go_wp2_with fail
        refine (L9.commitL hd8 h2 HO'.out).mono ?_
        rintro e w10 ⟨rfl, L10⟩
        clear L9
        have L11 := L10.alloc #[.int .u64 (o' : Int), .int .u64 (k.length : Int)] 73
        clear L10
        go_wp2_with fail
        generalize w10.alloc (Obj.cells #[.int .u64 (o' : Int), .int .u64 (k.length : Int)] 73) = w11 at L11 ⊢
        have H1 := logF_at f2 k hd8 k.length h2
        obtain ⟨g1, hg1⟩ : ∃ g, putF f2 (logN D k k.length) = g := ⟨_, rfl⟩
        rw [hg1] at H1
        have HH1 := Lib.hid H1
        clear H1
        go_wp2_with fail
        refine (L11.putL (fun w X h => h.1) (by rw [logN_length]; omega) hby hg1).mono ?_
        rintro e w12 ⟨rfl, L12⟩
        clear L11
        clear hg1
        have b0 := L12.cell (List.mem_cons_self ..) 0
        have b1 := L12.cell (List.mem_cons_self ..) 1
        go_wp2_with fail
        refine (L12.store o' k.length hos.2 (by omega)).mono ?_
        rintro e w13 ⟨rfl, L13⟩
        clear L12
        clear b0 b1
        have H1 := logF_at (upd g1 o' k.length) l hc8 l.length h1
        obtain ⟨g3, hg3⟩ : ∃ g, putF (upd g1 o' k.length) (logN C l l.length) = g := ⟨_, rfl⟩
        rw [hg3] at H1
        have HH3 := Lib.hid H1
        clear H1
        go_wp2_with fail
        refine (L13.putL (fun w X h => h.2.1) (by rw [logN_length]; omega) hbx hg3).mono ?_
        rintro e w14 ⟨rfl, L14⟩
        clear L13
        clear hg3
        have b0 := L14.cell (List.mem_cons_of_mem _ (List.mem_cons_self ..)) 0
        have b1 := L14.cell (List.mem_cons_of_mem _ (List.mem_cons_self ..)) 1
        go_wp2_with fail
        refine (L14.store o l.length hos.1 (by omega)).mono ?_
        rintro e w15 ⟨rfl, L15⟩
        clear L14
        clear b0 b1
        have rl : readN (upd g3 o l.length) C l.length = l := by
          rw [read_back (l := l) (Nat.le_refl _) (fun i hi => by
            have := HO.out
            rw [upd_ne (by omega), upd_ne (by omega)]
            exact HH3.out.1 i hi), List.take_length]
        have rk : readN (upd g3 o l.length) D k.length = k := by
          rw [read_back (l := k) (Nat.le_refl _) (fun i hi => by
            have := HO.out
            have := HO'.out
            have := HCD.out
            rw [upd_ne (by omega), upd_ne (by omega), HH3.out.2 _ (by omega), HH3.out.2 _ (by omega), upd_ne (by omega), upd_ne (by omega)]
            exact HH1.out.1 i hi), List.take_length]
        have ck : upd g3 o l.length o' = k.length := by
          have := HO.out
          have := HO'.out
          have := HCD.out
          rw [upd_ne (by omega), HH3.out.2 _ (by omega), upd_same]
        have cs : upd g3 o l.length (64 + 416 * D) = 1 ∧ upd g3 o l.length (64 + 416 * D + 8) = 3776 ∧ upd g3 o l.length (64 + 416 * C) = 0 := by
          have := HO.out
          have := HO'.out
          have := HCD.out
          rw [upd_ne (by omega), HH3.out.2 _ (by omega), upd_ne (by omega), HH1.out.2 _ (by omega)]
          rw [upd_ne (by omega), HH3.out.2 _ (by omega), upd_ne (by omega), HH1.out.2 _ (by omega)]
          rw [upd_ne (by omega), HH3.out.2 _ (by omega), upd_ne (by omega), HH1.out.2 _ (by omega)]
          exact HF2.out
        have co : upd g3 o l.length o = l.length := upd_same _ _ _
        generalize upd g3 o l.length = z at *
        have RL := Lib.hid rl
        have RK := Lib.hid rk
        have CK := Lib.hid ck
        have CS := Lib.hid cs
        have CO := Lib.hid co
        clear rl rk ck cs co
        go_wp2_with fail
        refine (L15.readL hc8 HO.out CO.out h1 RL.out).mono ?_
        rintro e w16 ⟨Br, mr, rfl, L16⟩
        clear L15
        obtain ⟨X, hX⟩ := L16.know
        go_wp2_with fail
        refine (L16.read (same_self hX.1 hX.2.2.2.1 (by omega))).mono ?_
        rintro e w17 ⟨rfl, L17⟩
        clear L16
        clear hX
        go_wp2_with fail
        refine (L17.readL hd8 HO'.out CK.out h2 RK.out).mono ?_
        rintro e w18 ⟨Bs, ms, rfl, L18⟩
        clear L17
        obtain ⟨X, hX⟩ := L18.know
        go_wp2_with fail
        refine (L18.read (same_self hX.1 hX.2.2.2.2.2 (by omega))).mono ?_
        rintro e w19 ⟨rfl, L19⟩
        clear L18
        clear hX
        go_wp2_with fail
        refine (L19.read (stateIs L19.any (get_of hd8 rfl CS.out.1))).mono ?_
        rintro e w20 ⟨rfl, L20⟩
        clear L19
        go_wp2_with fail
        refine (L20.read (headIs L20.any (get_of hd8 rfl CS.out.2.1))).mono ?_
        rintro e w21 ⟨rfl, L21⟩
        clear L20
        go_wp2_with fail
        refine (L21.read (stateIs L21.any (get_of hc8 rfl CS.out.2.2))).mono ?_
        rintro e w22 ⟨rfl, L22⟩
        clear L21
        have hg := L22.done
        clear L22
        go_wp2
        go_ret
        exact ⟨rfl, hg⟩
    · have t1 : decide ((24 : Int) < k.length) = true := decide_eq_true (by omega)
      go_enter Try.func29, Try.ntmps29
      go_wp2_with fail
      refine (awake17 _).mono ?_
      rintro e w1 ⟨rfl, hg⟩
      have hg := hga.trans hg
      clear hnew hga
      go_wp2
      go_ret
      exact ⟨rfl, hg⟩
  · have t0 : decide ((24 : Int) < l.length) = true := decide_eq_true (by omega)
    go_enter Try.func29, Try.ntmps29
    go_wp2_with fail
    refine (awake17 _).mono ?_
    rintro e w1 ⟨rfl, hg⟩
    have hg := hga.trans hg
    clear hnew hga
    go_wp2
    go_ret
    exact ⟨rfl, hg⟩
end Go.Proofs.Ck
