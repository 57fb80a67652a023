/- LedgerLast: the walk. -/
import Derived.Test.YtpakfelekphbmaaGLl
import Derived.Test.YtpakfelekphbmaaAwake09
import Derived.Test.YtpakfelekphbmaaGDirW
namespace Go.Proofs.Ck
open Go Go.RowKit

theorem Led.back {f : Nat → Nat} {all : List Nat} {L : Nat → List Nat} (h : Led f all L) {c off : Nat} (hc : c < 8) (hoff : off ∈ all) (hno : ∀ d, d < 8 → off ∉ L d) : Led (unlinkF (linkF f c off) c off) all L := by
  have h1 := h.link hc hoff hno
  have h2 := h1.unlink (c := c) (off := off) hc (by simp)
  have e : (fun d => if d = c then ((fun d => if d = c then off :: L c else L d) c).filter (· != off) else (fun d => if d = c then off :: L c else L d) d) = L := by
    funext d
    by_cases hd : d = c
    · subst hd
      simp only [if_true]
      rw [List.filter_cons]
      simp only [bne_self_eq_false, Bool.false_eq_true, if_false]
      exact List.filter_eq_self.2 fun x hx => by
        simp only [bne_iff_ne, ne_eq]
        intro e
        exact hno d hc (e ▸ hx)
    · simp only [if_neg hd]
  rw [e] at h2
  exact h2

set_option maxRecDepth 100000 in
set_option maxHeartbeats 8000000 in
theorem ledgerLast (who : Nat) (hwho : who < 256) {w : World} {D1 D2 : Option Addr} {m1 m2 : Nat} {l1 : List (Nat × Nat × Nat)} {l2 : List (Nat × Nat)} (hD1 : Row (fun b => b < w.heap.size) w D1 l1.length 3 (pcs l1)) (hcap : l1.length ≤ m1) (hl1 : l1.length ≤ 9223372036854775807)
    (hb1 : ∀ q ∈ l1, q.1 < 256 ∧ q.2.1 < 256 ∧ q.2.2 < 65536) (hD2 : Row (fun b => b < w.heap.size) w D2 l2.length 2 (stps l2)) (hl2 : l2.length ≤ 9223372036854775807) (hb2 : ∀ q ∈ l2, q.1 < 256 ∧ q.2 < 256) :
    Calls Try.prog 32 #[.slice D1 l1.length m1, .slice D2 l2.length m2, .int .u8 (who : Int)] w fun e w' => e = .returned (.bool true) ∧ Grow w w' := by
  have al : Try.prog.arrayLen 122 = 8 := by kernel_rfl
  obtain ⟨c, hc⟩ : ∃ c, who % 8 = c := ⟨_, rfl⟩
  have hc8 : c < 8 := by omega
  have m1' : IntKind.u8.wrap ((who : Int) % 8) = (c : Int) := by rw [IntKind.wrap_u8]; omega
  have m2' : (who : Int) % 8 = (c : Int) := by omega
  have m3' : (who : Int).tmod 8 = (c : Int) := by rw [Int.tmod_eq_emod_of_nonneg (by omega)]; omega
  have m4' : IntKind.u8.wrap (c : Int) = (c : Int) := by rw [IntKind.wrap_u8]; omega
  have m5' : IntKind.i64.wrap (c : Int) = (c : Int) := by rw [IntKind.wrap_i64]; omega
  clear hc
  go_enter Try.func32, Try.ntmps32
  go_wp2_with fail
  refine (awake09 w).mono ?_
  rintro e w1 ⟨rfl, hg⟩
  have hlaid := laid_call (w0 := w) (K0 := fun w X => Row (fun b => ¬ X b) w D2 l2.length 2 (stps l2)) hg ((hD1.grow hg).mono fun b hb _ => hb) hcap hl1 hb1 stable_row ((hD2.grow hg).mono fun b hb hh => by have := hg.size; omega)
  obtain ⟨hled, hne, -, h21⟩ := laid_led l1
  unfold LaidP at hlaid
  generalize (laidS l1).load = f at hlaid hled
  generalize atsL l1 = all at hlaid hled hne h21
  clear hD1 hD2 hb1 hl1 hg
  go_wp2_with fail
  refine hlaid.mono ?_
  rintro e w2 ⟨base, p, A, cA, rfl, L2⟩
  clear hlaid
  have hpl := played_L (cA := cA) (m := m2) L2 stable_row rfl hne h21 hled (fun w X h => h) hb2 hl2
  have hledk := hled.steps hne (l2.take 40)
  generalize stepsF all f (fun _ => []) (l2.take 40) = F at hpl hledk
  generalize stepsL all (fun _ => []) (l2.take 40) = Ls at hpl hledk
  clear L2 hb2 hl2 hled
  go_wp2_with fail
  refine hpl.mono ?_
  clear hpl
  rintro e w3 ⟨cs, rfl, hcs, L3⟩
  have hone : cs.all (·.oneCell') = true := by
    obtain ⟨X, hX, -⟩ := L3.know
    rw [Array.all_eq_true]
    intro i hi
    obtain ⟨v, hv, A, c, rfl, -⟩ := hX i (by omega)
    rw [Array.getElem?_eq_getElem hi, Option.some.injEq] at hv
    rw [hv]
    rfl
  have L4 := L3.alloc #[.slice none 0 0, .slice none 0 0, .slice none 0 0, .slice none 0 0, .slice none 0 0, .slice none 0 0, .slice none 0 0, .slice none 0 0] 122
  have hbx := L4.box (List.mem_cons_self ..)
  have L5 := L4.setRow cs
  clear L3 L4
  go_wp2_with (refine wpList_store_row rfl 122 (.tmp 10) (.tmp 28) rfl w3.heap.size cs rfl rfl 122 _ hbx (info122.trans (by rw [hcs])) (by rw [hcs]; rfl) hone ?_)
  generalize (w3.alloc (Obj.cells #[.slice none 0 0, .slice none 0 0, .slice none 0 0, .slice none 0 0, .slice none 0 0, .slice none 0 0, .slice none 0 0, .slice none 0 0] 122)).setRow w3.heap.size cs = w5 at *
  generalize w3.heap.size = q8 at *
  replace L5 := L5.less (L := fun w X => Slots cs Ls w X ∧ Row (fun b => ¬ X b) w A all.length 1 (u64s all)) (stable_slots.and stable_row) (fun w X h => ⟨h.1, h.2.1⟩)
  clear hbx hone
  obtain ⟨n, hn⟩ : ∃ n, all.length = n := ⟨_, rfl⟩
  rw [hn] at L5 h21
  simp only [hn]
  go_loopw [13] (fun i wr => ∃ (d : Nat) (G : Nat → Nat), d ≤ n ∧ i = .int .i64 (d : Int) ∧ Led G all Ls ∧ Law base (fun _ => False) w wr (.pointer p) G [(q8, cs, 122)] (fun w X => Slots cs Ls w X ∧ Row (fun b => ¬ X b) w A n 1 (u64s all))) (fun i _ => n - (intOf i).toNat)
  case atStart => exact ⟨0, F, Nat.zero_le _, rfl, hledk, L5⟩
  case round =>
    clear L5 hledk
    obtain ⟨i, G, hi, rfl, hled, L6⟩ := hrel
    by_cases hlt : i < n
    · have g0 : decide ((i : Int) < n) = true := decide_eq_true (by omega)
      obtain ⟨o, ho⟩ : ∃ o, all.getD i 0 = o := ⟨_, rfl⟩
      have hom : o ∈ all := by
        rw [← ho, List.getD_eq_getElem?_getD, List.getElem?_eq_getElem (by omega)]
        exact List.getElem_mem _
      obtain ⟨X, hX⟩ := L6.know
      obtain ⟨bA, oA, rfl, -, hcA⟩ := hX.2.pos (by omega) (by omega)
      have xA := hcA i _ (u64s_get (by omega))
      rw [ho] at xA
      have gi0 : (0 : Int) ≤ i := by omega
      have gi1 : (i : Int) < n := by omega
      have hl6 := L6
      clear hX X hcA
      go_wp2_with fail
      clear L6 g0
      go_loopw [14, 15] (fun t14 t15 wx => ∃ d : Nat, d ≤ 8 ∧ t14 = .bool (inN Ls o d) ∧ t15 = .int .i64 (d : Int) ∧ Law base (fun _ => False) w wx (.pointer p) G [(q8, cs, 122)] (fun w X => Slots cs Ls w X ∧ Row (fun b => ¬ X b) w (some ⟨bA, oA, none⟩) n 1 (u64s all))) (fun _ t15 _ => 8 - (intOf t15).toNat)
      case atStart => exact ⟨0, Nat.zero_le _, rfl, rfl, hl6⟩
      case round =>
        clear hl6 xA
        obtain ⟨d, hd, rfl, rfl, L7⟩ := hrel
        have hxA : ∀ {w' : World} {X : Nat → Prop}, Row (fun b => ¬ X b) w' (some ⟨bA, oA, none⟩) n 1 (u64s all) → w'.cell? ⟨bA, oA + i, none⟩ = some (.int .u64 (o : Int)) := fun {w' X} h => by
          obtain ⟨b', o', e, -, hc⟩ := h.pos (by omega) (by omega)
          cases e
          have := hc i _ (u64s_get (by omega))
          rw [ho] at this
          exact this
        by_cases hd8 : d < 8
        · have g0 : decide ((d : Int) < 8) = true := decide_eq_true (by omega)
          have gd : (0 : Int) ≤ (d : Int) ∧ (d : Int) < 8 := by omega
          obtain ⟨X, hX⟩ := L7.know
          obtain ⟨vd, hvd, Ad, cd, rfl, -, hrd⟩ := hX.1 d hd8
          have xA := hxA hX.2
          have xd := L7.cell (List.mem_cons_self ..) d
          rw [hvd] at xd
          have hfew := hled.few hd8
          have hsc := inN_succ Ls o d
          obtain ⟨b, hb'⟩ : ∃ b, decide (o ∈ Ls d) = b := ⟨_, rfl⟩
          rw [hb'] at hsc
          have hIn : ∀ {w' : World} {X : Nat → Prop}, (Slots cs Ls w' X ∧ Row (fun b => ¬ X b) w' (some ⟨bA, oA, none⟩) n 1 (u64s all)) → Law base (fun _ => False) w w' (.pointer p) G [(q8, cs, 122)] (fun w X => Slots cs Ls w X ∧ Row (fun b => ¬ X b) w (some ⟨bA, oA, none⟩) n 1 (u64s all)) →
              Calls Try.prog 114 #[.slice Ad (Ls d).length cd, .int .u64 (o : Int)] w' fun e w2 => e = .returned (.bool b) ∧ Law base (fun _ => False) w w2 (.pointer p) G [(q8, cs, 122)] (fun w X => Slots cs Ls w X ∧ Row (fun b => ¬ X b) w (some ⟨bA, oA, none⟩) n 1 (u64s all)) := fun {w' X} hX L => by
            obtain ⟨v', hv', A', c', e', -, hr⟩ := hX.1 d hd8
            rw [hvd] at hv'
            cases hv'
            cases e'
            exact L.read (in_call (c := cd) hr rfl (by omega) o hb')
          have hKeep : ∀ {w' : World}, Law base (fun _ => False) w w' (.pointer p) G [(q8, cs, 122)] (fun w X => Slots cs Ls w X ∧ Row (fun b => ¬ X b) w (some ⟨bA, oA, none⟩) n 1 (u64s all)) → w'.cell? ⟨q8, d, none⟩ = some (.slice Ad (Ls d).length cd) ∧ w'.cell? ⟨bA, oA + i, none⟩ = some (.int .u64 (o : Int)) := fun {w'} L => by
            have hc := L.cell (List.mem_cons_self ..) d
            rw [hvd] at hc
            obtain ⟨X, hX⟩ := L.know
            exact ⟨hc, hxA hX.2⟩
          have HS := Lib.hid hsc
          clear hsc hX hrd X
          obtain ⟨tb, htb⟩ : ∃ b, inN Ls o d = b := ⟨_, rfl⟩
          rw [htb] at HS ⊢
          clear htb
          cases tb
          · go_wp2_with fail
            have L7d := L7.drew
            have xd2 := L7d.cell (List.mem_cons_self ..) d
            rw [hvd] at xd2
            obtain ⟨X, hX⟩ := L7d.know
            have HI2 := hIn hX L7d
            refine region_plain (fun w' => w'.cell? ⟨q8, d, none⟩ = some (.slice Ad (Ls d).length cd) ∧ w'.cell? ⟨bA, oA + i, none⟩ = some (.int .u64 (o : Int))) (by kernel_rfl) ⟨xd2, hxA hX.2⟩ (fun hHeld => ?_)
            clear L7 xd xA hIn hxA L7d xd2 hX X
            refine wpAnyH_take (i := 0) (v := ?_) rfl (by kernel_rfl) (by kernel_rfl) (by kernel_rfl) (fun _ _ _ h => h) (Or.inl ⟨by first | kernel_rfl | rfl, ?_⟩) (by assumption) ?_
            rotate_left
            · intro w hSw; (try dsimp only at hSw); (try go_split_ands); go_simp; first | done | with_reducible rfl
            try simp only [Act.put, List.getElem_toArray, List.getElem_cons_zero, List.setIfInBounds_toArray, List.set_cons_zero, List.set_cons_succ]
            refine wpAnyH_take (i := 1) (v := ?_) rfl (by kernel_rfl) (by kernel_rfl) (by kernel_rfl) (fun _ _ _ h => h) (Or.inl ⟨by first | kernel_rfl | rfl, ?_⟩) (by assumption) ?_
            rotate_left
            · intro w hSw; (try dsimp only at hSw); (try go_split_ands); go_simp; first | done | with_reducible rfl
            try simp only [Act.put, List.getElem_toArray, List.getElem_cons_succ, List.getElem_cons_zero, List.setIfInBounds_toArray, List.set_cons_zero, List.set_cons_succ]
            refine wpAnyH_take (i := 2) (v := ?_) rfl (by kernel_rfl) (by kernel_rfl) (by kernel_rfl) (fun _ _ _ h => h) (Or.inl ⟨by first | kernel_rfl | rfl, ?_⟩) (by assumption) ?_
            rotate_left
            · intro w hSw; (try dsimp only at hSw); (try go_split_ands); go_simp; first | done | with_reducible rfl
            try simp only [Act.put, List.getElem_toArray, List.getElem_cons_succ, List.getElem_cons_zero, List.setIfInBounds_toArray, List.set_cons_zero, List.set_cons_succ]
            refine wpAnyH_take (i := 3) (v := ?_) rfl (by kernel_rfl) (by kernel_rfl) (by kernel_rfl) (fun _ _ _ h => h) (Or.inl ⟨by first | kernel_rfl | rfl, ?_⟩) (by assumption) ?_
            rotate_left
            · intro w hSw; (try dsimp only at hSw); (try go_split_ands); go_simp; first | done | with_reducible rfl
            try simp only [Act.put, List.getElem_toArray, List.getElem_cons_succ, List.getElem_cons_zero, List.setIfInBounds_toArray, List.set_cons_zero, List.set_cons_succ]
            refine wpAnyH_take (i := 4) (v := ?_) rfl (by kernel_rfl) (by kernel_rfl) (by kernel_rfl) (fun _ _ _ h => h) (Or.inl ⟨by first | kernel_rfl | rfl, ?_⟩) (by assumption) ?_
            rotate_left
            · intro w hSw; (try dsimp only at hSw); (try go_split_ands); go_simp; first | done | with_reducible rfl
            try simp only [Act.put, List.getElem_toArray, List.getElem_cons_succ, List.getElem_cons_zero, List.setIfInBounds_toArray, List.set_cons_zero, List.set_cons_succ]
            refine wpAnyH_take (i := 5) (v := ?_) rfl (by kernel_rfl) (by kernel_rfl) (by kernel_rfl) (fun _ _ _ h => h) (Or.inl ⟨by first | kernel_rfl | rfl, ?_⟩) (by assumption) ?_
            rotate_left
            · intro w hSw; (try dsimp only at hSw); (try go_split_ands); go_simp; first | done | with_reducible rfl
            try simp only [Act.put, List.getElem_toArray, List.getElem_cons_succ, List.getElem_cons_zero, List.setIfInBounds_toArray, List.set_cons_zero, List.set_cons_succ]
            refine wpAnyH_take (i := 6) (v := ?_) rfl (by kernel_rfl) (by kernel_rfl) (by kernel_rfl) (fun _ _ _ h => h) (Or.inl ⟨by first | kernel_rfl | rfl, ?_⟩) (by assumption) ?_
            rotate_left
            · intro w hSw; (try dsimp only at hSw); (try go_split_ands); go_simp; first | done | with_reducible rfl
            try simp only [Act.put, List.getElem_toArray, List.getElem_cons_succ, List.getElem_cons_zero, List.setIfInBounds_toArray, List.set_cons_zero, List.set_cons_succ]
            refine wpAnyH_take (i := 7) (v := ?_) rfl (by kernel_rfl) (by kernel_rfl) (by kernel_rfl) (fun _ _ _ h => h) (Or.inl ⟨by first | kernel_rfl | rfl, ?_⟩) (by assumption) ?_
            rotate_left
            · intro w hSw; (try dsimp only at hSw); (try go_split_ands); go_simp; first | done | with_reducible rfl
            try simp only [Act.put, List.getElem_toArray, List.getElem_cons_succ, List.getElem_cons_zero, List.setIfInBounds_toArray, List.set_cons_zero, List.set_cons_succ]
            refine wpAnyH_take (i := 8) (v := ?_) rfl (by kernel_rfl) (by kernel_rfl) (by kernel_rfl) (fun _ _ _ h => h) (Or.inl ⟨by first | kernel_rfl | rfl, ?_⟩) (by assumption) ?_
            rotate_left
            · intro w hSw; (try dsimp only at hSw); (try go_split_ands); go_simp; first | done | with_reducible rfl
            try simp only [Act.put, List.getElem_toArray, List.getElem_cons_succ, List.getElem_cons_zero, List.setIfInBounds_toArray, List.set_cons_zero, List.set_cons_succ]
            refine wpAnyH_ready (rs := [9]) (by kernel_rfl) (by simp) ?_
            refine AllReadyH.cons rfl (fun K hK => ?_) AllReadyH.nil
            go_simp
            go_at_call 114
            refine Calls.mono HI2 ?_
            rintro e wy ⟨rfl, L8⟩
            clear HI2
            go_wp2_with fail
            refine hK.out _ _ ?_ (fun hHeld => ?_)
            · exact hKeep L8
            clear hK K
            try simp only [Act.put, List.getElem_toArray, List.getElem_cons_succ, List.getElem_cons_zero, List.setIfInBounds_toArray, List.set_cons_zero, List.set_cons_succ]
            refine wpAnyH_take (i := 10) (v := ?_) rfl (by kernel_rfl) (by kernel_rfl) (by kernel_rfl) (fun _ _ _ h => h) (Or.inl ⟨by first | kernel_rfl | rfl, ?_⟩) (by assumption) ?_
            rotate_left
            · intro w hSw; (try dsimp only at hSw); (try go_split_ands); go_simp; first | done | with_reducible rfl
            try simp only [Act.put, List.getElem_toArray, List.getElem_cons_succ, List.getElem_cons_zero, List.setIfInBounds_toArray, List.set_cons_zero, List.set_cons_succ]
            refine wpAnyH_take (i := 11) (v := ?_) rfl (by kernel_rfl) (by kernel_rfl) (by kernel_rfl) (fun _ _ _ h => h) (Or.inl ⟨by first | kernel_rfl | rfl, ?_⟩) (by assumption) ?_
            rotate_left
            · intro w hSw; (try dsimp only at hSw); (try go_split_ands); go_simp; first | done | with_reducible rfl
            try simp only [Act.put, List.getElem_toArray, List.getElem_cons_succ, List.getElem_cons_zero, List.setIfInBounds_toArray, List.set_cons_zero, List.set_cons_succ]
            refine wpAnyH_done (by kernel_rfl) ?_ _
            refine NoPanic.normal ?_
            clear hKeep
            go_wp2
            go_roundw
            case rel => exact ⟨d + 1, by omega, by rw [HS.out]; rfl, by go_num, L8⟩
            case measure => simp [intOf]; omega
          · go_wp2_with fail
            have L7d := L7.drew
            clear L7 xd xA hIn hxA hKeep hvd
            refine region_plain (fun _ => True) (by kernel_rfl) trivial (fun hHeld => ?_)
            refine wpAnyH_take (i := 0) (v := ?_) rfl (by kernel_rfl) (by kernel_rfl) (by kernel_rfl) (fun _ _ _ h => h) (Or.inl ⟨by first | kernel_rfl | rfl, ?_⟩) (by assumption) ?_
            rotate_left
            · intro w hSw; (try dsimp only at hSw); (try go_split_ands); go_simp; first | done | with_reducible rfl
            try simp only [Act.put, List.getElem_toArray, List.getElem_cons_zero, List.setIfInBounds_toArray, List.set_cons_zero, List.set_cons_succ]
            refine wpAnyH_take (i := 1) (v := ?_) rfl (by kernel_rfl) (by kernel_rfl) (by kernel_rfl) (fun _ _ _ h => h) (Or.inl ⟨by first | kernel_rfl | rfl, ?_⟩) (by assumption) ?_
            rotate_left
            · intro w hSw; (try dsimp only at hSw); (try go_split_ands); go_simp; first | done | with_reducible rfl
            try simp only [Act.put, List.getElem_toArray, List.getElem_cons_succ, List.getElem_cons_zero, List.setIfInBounds_toArray, List.set_cons_zero, List.set_cons_succ]
            refine wpAnyH_take (i := 2) (v := undef) rfl (by kernel_rfl) (by kernel_rfl) (by kernel_rfl) (fun _ _ _ h => h) (Or.inr ⟨by first | kernel_rfl | rfl, rfl⟩) (by assumption) ?_
            try simp only [Act.put, List.getElem_toArray, List.getElem_cons_succ, List.getElem_cons_zero, List.setIfInBounds_toArray, List.set_cons_zero, List.set_cons_succ]
            refine wpAnyH_take (i := 3) (v := undef) rfl (by kernel_rfl) (by kernel_rfl) (by kernel_rfl) (fun _ _ _ h => h) (Or.inr ⟨by first | kernel_rfl | rfl, rfl⟩) (by assumption) ?_
            try simp only [Act.put, List.getElem_toArray, List.getElem_cons_succ, List.getElem_cons_zero, List.setIfInBounds_toArray, List.set_cons_zero, List.set_cons_succ]
            refine wpAnyH_take (i := 4) (v := undef) rfl (by kernel_rfl) (by kernel_rfl) (by kernel_rfl) (fun _ _ _ h => h) (Or.inr ⟨by first | kernel_rfl | rfl, rfl⟩) (by assumption) ?_
            try simp only [Act.put, List.getElem_toArray, List.getElem_cons_succ, List.getElem_cons_zero, List.setIfInBounds_toArray, List.set_cons_zero, List.set_cons_succ]
            refine wpAnyH_take (i := 5) (v := undef) rfl (by kernel_rfl) (by kernel_rfl) (by kernel_rfl) (fun _ _ _ h => h) (Or.inr ⟨by first | kernel_rfl | rfl, rfl⟩) (by assumption) ?_
            try simp only [Act.put, List.getElem_toArray, List.getElem_cons_succ, List.getElem_cons_zero, List.setIfInBounds_toArray, List.set_cons_zero, List.set_cons_succ]
            refine wpAnyH_take (i := 6) (v := undef) rfl (by kernel_rfl) (by kernel_rfl) (by kernel_rfl) (fun _ _ _ h => h) (Or.inr ⟨by first | kernel_rfl | rfl, rfl⟩) (by assumption) ?_
            try simp only [Act.put, List.getElem_toArray, List.getElem_cons_succ, List.getElem_cons_zero, List.setIfInBounds_toArray, List.set_cons_zero, List.set_cons_succ]
            refine wpAnyH_take (i := 7) (v := undef) rfl (by kernel_rfl) (by kernel_rfl) (by kernel_rfl) (fun _ _ _ h => h) (Or.inr ⟨by first | kernel_rfl | rfl, rfl⟩) (by assumption) ?_
            try simp only [Act.put, List.getElem_toArray, List.getElem_cons_succ, List.getElem_cons_zero, List.setIfInBounds_toArray, List.set_cons_zero, List.set_cons_succ]
            refine wpAnyH_take (i := 8) (v := undef) rfl (by kernel_rfl) (by kernel_rfl) (by kernel_rfl) (fun _ _ _ h => h) (Or.inr ⟨by first | kernel_rfl | rfl, rfl⟩) (by assumption) ?_
            try simp only [Act.put, List.getElem_toArray, List.getElem_cons_succ, List.getElem_cons_zero, List.setIfInBounds_toArray, List.set_cons_zero, List.set_cons_succ]
            refine wpAnyH_take (i := 9) (v := undef) rfl (by kernel_rfl) (by kernel_rfl) (by kernel_rfl) (fun _ _ _ h => h) (Or.inr ⟨by first | kernel_rfl | rfl, rfl⟩) (by assumption) ?_
            try simp only [Act.put, List.getElem_toArray, List.getElem_cons_succ, List.getElem_cons_zero, List.setIfInBounds_toArray, List.set_cons_zero, List.set_cons_succ]
            refine wpAnyH_take (i := 10) (v := ?_) rfl (by kernel_rfl) (by kernel_rfl) (by kernel_rfl) (fun _ _ _ h => h) (Or.inl ⟨by first | kernel_rfl | rfl, ?_⟩) (by assumption) ?_
            rotate_left
            · intro w hSw; (try dsimp only at hSw); (try go_split_ands); go_simp; first | done | with_reducible rfl
            try simp only [Act.put, List.getElem_toArray, List.getElem_cons_succ, List.getElem_cons_zero, List.setIfInBounds_toArray, List.set_cons_zero, List.set_cons_succ]
            refine wpAnyH_take (i := 11) (v := ?_) rfl (by kernel_rfl) (by kernel_rfl) (by kernel_rfl) (fun _ _ _ h => h) (Or.inl ⟨by first | kernel_rfl | rfl, ?_⟩) (by assumption) ?_
            rotate_left
            · intro w hSw; (try dsimp only at hSw); (try go_split_ands); go_simp; first | done | with_reducible rfl
            try simp only [Act.put, List.getElem_toArray, List.getElem_cons_succ, List.getElem_cons_zero, List.setIfInBounds_toArray, List.set_cons_zero, List.set_cons_succ]
            refine wpAnyH_done (by kernel_rfl) ?_ _
            refine NoPanic.normal ?_
            go_wp2
            go_roundw
            case rel => exact ⟨d + 1, by omega, by rw [HS.out]; rfl, by go_num, L7d⟩
            case measure => simp [intOf]; omega
        · obtain rfl : d = 8 := by omega
          rw [inN_all]
          have g0 : decide (((8 : Nat) : Int) < 8) = false := decide_eq_false (by omega)
          obtain ⟨ti, hti⟩ : ∃ b, inL Ls o = b := ⟨_, rfl⟩
          rw [hti]
          cases ti
          · have hno := inL_no hti
            have hled2 := hled.link hc8 hom hno
            have hled3 := hled.back hc8 hom hno
            obtain ⟨X, hX⟩ := L7.know
            have xA := hxA hX.2
            have HU := L7.linkL hled hc8 hom
            clear hX X
            go_wp2_with fail
            refine HU.mono ?_
            rintro e w8 ⟨rfl, L8⟩
            clear HU L7 xA
            have hL2 : (fun d => if d = c then o :: Ls c else Ls d) c = o :: Ls c := if_pos rfl
            have HL := L8.listL hled2 hc8 (l := o :: Ls c) (n := (Ls c).length + 1) hL2 rfl
            go_wp2_with fail
            refine HL.mono ?_
            rintro e w9 ⟨A9, c9, rfl, L9⟩
            clear HL L8
            have L10 := L9.drew
            clear L9
            obtain ⟨X, hX⟩ := L10.know
            obtain ⟨b9, o9, rfl, -, hc9⟩ := hX.1.pos (by omega) (by omega)
            obtain ⟨vc, hvc, Ac, cc, rfl, -, -⟩ := hX.2.1 c hc8
            have gc : (0 : Int) ≤ (c : Int) ∧ (c : Int) < 8 := by omega
            have hkeep : ∀ {w' : World} {f : Nat → Nat}, Law base (fun _ => False) w w' (.pointer p) f [(q8, cs, 122)] (fun w X => Row (fun b => ¬ X b) w (some ⟨b9, o9, none⟩) ((Ls c).length + 1) 1 (u64s (o :: Ls c)) ∧ Slots cs Ls w X ∧ Row (fun b => ¬ X b) w (some ⟨bA, oA, none⟩) n 1 (u64s all)) →
                w'.cell? ⟨q8, c, none⟩ = some (.slice Ac (Ls c).length cc) ∧ w'.cell? ⟨b9, o9, none⟩ = some (.int .u64 (o : Int)) ∧ w'.cell? ⟨bA, oA + i, none⟩ = some (.int .u64 (o : Int)) := fun {w' f} L => by
              obtain ⟨X, hX⟩ := L.know
              obtain ⟨b', o', e, -, hc⟩ := hX.1.pos (by omega) (by omega)
              cases e
              have xc := L.cell (List.mem_cons_self ..) c
              rw [hvc] at xc
              exact ⟨xc, hc 0 _ rfl, hxA hX.2.2⟩
            have HH := L10.headL (c := c) (x := o) hc8 ((hled2.lists.head hc8).trans (by rw [if_pos rfl]; rfl))
            have t0 : ((o : Int) != o) = false := by simp
            have t1 : ((((Ls c).length + 1 : Nat) : Int) != ((Ls c).length + 1 : Nat)) = false := by simp
            have t2 : IntKind.i64.wrap (((Ls c).length : Int) + 1) = (((Ls c).length + 1 : Nat) : Int) := by have := hled.few hc8; rw [IntKind.wrap_i64]; omega
            have gA : (0 : Int) ≤ i ∧ (i : Int) < n := ⟨by omega, by omega⟩
            have g9 : (0 : Int) ≤ 0 ∧ (0 : Int) < (((Ls c).length + 1 : Nat) : Int) := ⟨by omega, by omega⟩
            have hfin : ∀ {w' : World}, Law base (fun _ => False) w w' (.pointer p) (linkF G c o) [(q8, cs, 122)] (fun w X => Row (fun b => ¬ X b) w (some ⟨b9, o9, none⟩) ((Ls c).length + 1) 1 (u64s (o :: Ls c)) ∧ Slots cs Ls w X ∧ Row (fun b => ¬ X b) w (some ⟨bA, oA, none⟩) n 1 (u64s all)) →
                Calls Try.prog 116 #[.pointer p, .int .i64 (c : Int), .int .u64 (o : Int)] w' fun e w' => e = .returned (.tuple #[]) ∧ Law base (fun _ => False) w w' (.pointer p) (unlinkF (linkF G c o) c o) [(q8, cs, 122)] (fun w X => Row (fun b => ¬ X b) w (some ⟨b9, o9, none⟩) ((Ls c).length + 1) 1 (u64s (o :: Ls c)) ∧ Slots cs Ls w X ∧ Row (fun b => ¬ X b) w (some ⟨bA, oA, none⟩) n 1 (u64s all)) := fun {w'} L =>
              L.unlinkL hled2 hc8 (by rw [if_pos rfl]; exact List.mem_cons_self ..)
            clear hX X hc9
            go_wp2_with fail
            refine region_plain (fun w' => w'.cell? ⟨q8, c, none⟩ = some (.slice Ac (Ls c).length cc) ∧ w'.cell? ⟨b9, o9, none⟩ = some (.int .u64 (o : Int)) ∧ w'.cell? ⟨bA, oA + i, none⟩ = some (.int .u64 (o : Int))) (by kernel_rfl) (hkeep L10) (fun hHeld => ?_)
            refine wpAnyH_take (i := 0) (v := ?_) rfl (by kernel_rfl) (by kernel_rfl) (by kernel_rfl) (fun _ _ _ h => h) (Or.inl ⟨by first | kernel_rfl | rfl, ?_⟩) (by assumption) ?_
            rotate_left
            · intro w hSw; (try dsimp only at hSw); (try go_split_ands); go_simp; first | done | with_reducible rfl
            try simp only [Act.put, List.getElem_toArray, List.getElem_cons_zero, List.setIfInBounds_toArray, List.set_cons_zero, List.set_cons_succ]
            refine wpAnyH_take (i := 1) (v := ?_) rfl (by kernel_rfl) (by kernel_rfl) (by kernel_rfl) (fun _ _ _ h => h) (Or.inl ⟨by first | kernel_rfl | rfl, ?_⟩) (by assumption) ?_
            rotate_left
            · intro w hSw; (try dsimp only at hSw); (try go_split_ands); go_simp; first | done | with_reducible rfl
            try simp only [Act.put, List.getElem_toArray, List.getElem_cons_succ, List.getElem_cons_zero, List.setIfInBounds_toArray, List.set_cons_zero, List.set_cons_succ]
            refine wpAnyH_take (i := 2) (v := ?_) rfl (by kernel_rfl) (by kernel_rfl) (by kernel_rfl) (fun _ _ _ h => h) (Or.inl ⟨by first | kernel_rfl | rfl, ?_⟩) (by assumption) ?_
            rotate_left
            · intro w hSw; (try dsimp only at hSw); (try go_split_ands); go_simp; first | done | with_reducible rfl
            try simp only [Act.put, List.getElem_toArray, List.getElem_cons_succ, List.getElem_cons_zero, List.setIfInBounds_toArray, List.set_cons_zero, List.set_cons_succ]
            refine wpAnyH_take (i := 3) (v := ?_) rfl (by kernel_rfl) (by kernel_rfl) (by kernel_rfl) (fun _ _ _ h => h) (Or.inl ⟨by first | kernel_rfl | rfl, ?_⟩) (by assumption) ?_
            rotate_left
            · intro w hSw; (try dsimp only at hSw); (try go_split_ands); go_simp; first | done | with_reducible rfl
            try simp only [Act.put, List.getElem_toArray, List.getElem_cons_succ, List.getElem_cons_zero, List.setIfInBounds_toArray, List.set_cons_zero, List.set_cons_succ]
            refine wpAnyH_take (i := 4) (v := ?_) rfl (by kernel_rfl) (by kernel_rfl) (by kernel_rfl) (fun _ _ _ h => h) (Or.inl ⟨by first | kernel_rfl | rfl, ?_⟩) (by assumption) ?_
            rotate_left
            · intro w hSw; (try dsimp only at hSw); (try go_split_ands); go_simp; first | done | with_reducible rfl
            try simp only [Act.put, List.getElem_toArray, List.getElem_cons_succ, List.getElem_cons_zero, List.setIfInBounds_toArray, List.set_cons_zero, List.set_cons_succ]
            refine wpAnyH_take (i := 5) (v := ?_) rfl (by kernel_rfl) (by kernel_rfl) (by kernel_rfl) (fun _ _ _ h => h) (Or.inl ⟨by first | kernel_rfl | rfl, ?_⟩) (by assumption) ?_
            rotate_left
            · intro w hSw; (try dsimp only at hSw); (try go_split_ands); go_simp; first | done | with_reducible rfl
            try simp only [Act.put, List.getElem_toArray, List.getElem_cons_succ, List.getElem_cons_zero, List.setIfInBounds_toArray, List.set_cons_zero, List.set_cons_succ]
            refine wpAnyH_take (i := 6) (v := ?_) rfl (by kernel_rfl) (by kernel_rfl) (by kernel_rfl) (fun _ _ _ h => h) (Or.inl ⟨by first | kernel_rfl | rfl, ?_⟩) (by assumption) ?_
            rotate_left
            · intro w hSw; (try dsimp only at hSw); (try go_split_ands); go_simp; first | done | with_reducible rfl
            try simp only [Act.put, List.getElem_toArray, List.getElem_cons_succ, List.getElem_cons_zero, List.setIfInBounds_toArray, List.set_cons_zero, List.set_cons_succ]
            refine wpAnyH_take (i := 7) (v := ?_) rfl (by kernel_rfl) (by kernel_rfl) (by kernel_rfl) (fun _ _ _ h => h) (Or.inl ⟨by first | kernel_rfl | rfl, ?_⟩) (by assumption) ?_
            rotate_left
            · intro w hSw; (try dsimp only at hSw); (try go_split_ands); go_simp; first | done | with_reducible rfl
            try simp only [Act.put, List.getElem_toArray, List.getElem_cons_succ, List.getElem_cons_zero, List.setIfInBounds_toArray, List.set_cons_zero, List.set_cons_succ]
            refine wpAnyH_take (i := 8) (v := ?_) rfl (by kernel_rfl) (by kernel_rfl) (by kernel_rfl) (fun _ _ _ h => h) (Or.inl ⟨by first | kernel_rfl | rfl, ?_⟩) (by assumption) ?_
            rotate_left
            · intro w hSw; (try dsimp only at hSw); (try go_split_ands); go_simp; first | done | with_reducible rfl
            try simp only [Act.put, List.getElem_toArray, List.getElem_cons_succ, List.getElem_cons_zero, List.setIfInBounds_toArray, List.set_cons_zero, List.set_cons_succ]
            refine wpAnyH_take (i := 9) (v := ?_) rfl (by kernel_rfl) (by kernel_rfl) (by kernel_rfl) (fun _ _ _ h => h) (Or.inl ⟨by first | kernel_rfl | rfl, ?_⟩) (by assumption) ?_
            rotate_left
            · intro w hSw; (try dsimp only at hSw); (try go_split_ands); go_simp; first | done | with_reducible rfl
            try simp only [Act.put, List.getElem_toArray, List.getElem_cons_succ, List.getElem_cons_zero, List.setIfInBounds_toArray, List.set_cons_zero, List.set_cons_succ]
            refine wpAnyH_take (i := 10) (v := ?_) rfl (by kernel_rfl) (by kernel_rfl) (by kernel_rfl) (fun _ _ _ h => h) (Or.inl ⟨by first | kernel_rfl | rfl, ?_⟩) (by assumption) ?_
            rotate_left
            · intro w hSw; (try dsimp only at hSw); (try go_split_ands); go_simp; first | done | with_reducible rfl
            try simp only [Act.put, List.getElem_toArray, List.getElem_cons_succ, List.getElem_cons_zero, List.setIfInBounds_toArray, List.set_cons_zero, List.set_cons_succ]
            refine wpAnyH_take (i := 11) (v := ?_) rfl (by kernel_rfl) (by kernel_rfl) (by kernel_rfl) (fun _ _ _ h => h) (Or.inl ⟨by first | kernel_rfl | rfl, ?_⟩) (by assumption) ?_
            rotate_left
            · intro w hSw; (try dsimp only at hSw); (try go_split_ands); go_simp; first | done | with_reducible rfl
            try simp only [Act.put, List.getElem_toArray, List.getElem_cons_succ, List.getElem_cons_zero, List.setIfInBounds_toArray, List.set_cons_zero, List.set_cons_succ]
            refine wpAnyH_take (i := 12) (v := ?_) rfl (by kernel_rfl) (by kernel_rfl) (by kernel_rfl) (fun _ _ _ h => h) (Or.inl ⟨by first | kernel_rfl | rfl, ?_⟩) (by assumption) ?_
            rotate_left
            · intro w hSw; (try dsimp only at hSw); (try go_split_ands); go_simp; first | done | with_reducible rfl
            try simp only [Act.put, List.getElem_toArray, List.getElem_cons_succ, List.getElem_cons_zero, List.setIfInBounds_toArray, List.set_cons_zero, List.set_cons_succ]
            refine wpAnyH_take (i := 13) (v := ?_) rfl (by kernel_rfl) (by kernel_rfl) (by kernel_rfl) (fun _ _ _ h => h) (Or.inl ⟨by first | kernel_rfl | rfl, ?_⟩) (by assumption) ?_
            rotate_left
            · intro w hSw; (try dsimp only at hSw); (try go_split_ands); go_simp; first | done | with_reducible rfl
            try simp only [Act.put, List.getElem_toArray, List.getElem_cons_succ, List.getElem_cons_zero, List.setIfInBounds_toArray, List.set_cons_zero, List.set_cons_succ]
            refine wpAnyH_take (i := 14) (v := ?_) rfl (by kernel_rfl) (by kernel_rfl) (by kernel_rfl) (fun _ _ _ h => h) (Or.inl ⟨by first | kernel_rfl | rfl, ?_⟩) (by assumption) ?_
            rotate_left
            · intro w hSw; (try dsimp only at hSw); (try go_split_ands); go_simp; first | done | with_reducible rfl
            try simp only [Act.put, List.getElem_toArray, List.getElem_cons_succ, List.getElem_cons_zero, List.setIfInBounds_toArray, List.set_cons_zero, List.set_cons_succ]
            refine wpAnyH_take (i := 15) (v := ?_) rfl (by kernel_rfl) (by kernel_rfl) (by kernel_rfl) (fun _ _ _ h => h) (Or.inl ⟨by first | kernel_rfl | rfl, ?_⟩) (by assumption) ?_
            rotate_left
            · intro w hSw; (try dsimp only at hSw); (try go_split_ands); go_simp; first | done | with_reducible rfl
            try simp only [Act.put, List.getElem_toArray, List.getElem_cons_succ, List.getElem_cons_zero, List.setIfInBounds_toArray, List.set_cons_zero, List.set_cons_succ]
            refine wpAnyH_take (i := 16) (v := ?_) rfl (by kernel_rfl) (by kernel_rfl) (by kernel_rfl) (fun _ _ _ h => h) (Or.inl ⟨by first | kernel_rfl | rfl, ?_⟩) (by assumption) ?_
            rotate_left
            · intro w hSw; (try dsimp only at hSw); (try go_split_ands); go_simp; first | done | with_reducible rfl
            try simp only [Act.put, List.getElem_toArray, List.getElem_cons_succ, List.getElem_cons_zero, List.setIfInBounds_toArray, List.set_cons_zero, List.set_cons_succ]
            refine wpAnyH_take (i := 17) (v := ?_) rfl (by kernel_rfl) (by kernel_rfl) (by kernel_rfl) (fun _ _ _ h => h) (Or.inl ⟨by first | kernel_rfl | rfl, ?_⟩) (by assumption) ?_
            rotate_left
            · intro w hSw; (try dsimp only at hSw); (try go_split_ands); go_simp; first | done | with_reducible rfl
            try simp only [Act.put, List.getElem_toArray, List.getElem_cons_succ, List.getElem_cons_zero, List.setIfInBounds_toArray, List.set_cons_zero, List.set_cons_succ]
            refine wpAnyH_take (i := 18) (v := ?_) rfl (by kernel_rfl) (by kernel_rfl) (by kernel_rfl) (fun _ _ _ h => h) (Or.inl ⟨by first | kernel_rfl | rfl, ?_⟩) (by assumption) ?_
            rotate_left
            · intro w hSw; (try dsimp only at hSw); (try go_split_ands); go_simp; first | done | with_reducible rfl
            try simp only [Act.put, List.getElem_toArray, List.getElem_cons_succ, List.getElem_cons_zero, List.setIfInBounds_toArray, List.set_cons_zero, List.set_cons_succ]
            refine wpAnyH_take (i := 19) (v := ?_) rfl (by kernel_rfl) (by kernel_rfl) (by kernel_rfl) (fun _ _ _ h => h) (Or.inl ⟨by first | kernel_rfl | rfl, ?_⟩) (by assumption) ?_
            rotate_left
            · intro w hSw; (try dsimp only at hSw); (try go_split_ands); go_simp; first | done | with_reducible rfl
            try simp only [Act.put, List.getElem_toArray, List.getElem_cons_succ, List.getElem_cons_zero, List.setIfInBounds_toArray, List.set_cons_zero, List.set_cons_succ]
            refine wpAnyH_take (i := 20) (v := ?_) rfl (by kernel_rfl) (by kernel_rfl) (by kernel_rfl) (fun _ _ _ h => h) (Or.inl ⟨by first | kernel_rfl | rfl, ?_⟩) (by assumption) ?_
            rotate_left
            · intro w hSw; (try dsimp only at hSw); (try go_split_ands); go_simp; first | done | with_reducible rfl
            try simp only [Act.put, List.getElem_toArray, List.getElem_cons_succ, List.getElem_cons_zero, List.setIfInBounds_toArray, List.set_cons_zero, List.set_cons_succ]
            refine wpAnyH_take (i := 22) (v := ?_) rfl (by kernel_rfl) (by kernel_rfl) (by kernel_rfl) (fun _ _ _ h => h) (Or.inl ⟨by first | kernel_rfl | rfl, ?_⟩) (by assumption) ?_
            rotate_left
            · intro w hSw; (try dsimp only at hSw); (try go_split_ands); go_simp; first | done | with_reducible rfl
            try simp only [Act.put, List.getElem_toArray, List.getElem_cons_succ, List.getElem_cons_zero, List.setIfInBounds_toArray, List.set_cons_zero, List.set_cons_succ]
            refine wpAnyH_take (i := 23) (v := ?_) rfl (by kernel_rfl) (by kernel_rfl) (by kernel_rfl) (fun _ _ _ h => h) (Or.inl ⟨by first | kernel_rfl | rfl, ?_⟩) (by assumption) ?_
            rotate_left
            · intro w hSw; (try dsimp only at hSw); (try go_split_ands); go_simp; first | done | with_reducible rfl
            try simp only [Act.put, List.getElem_toArray, List.getElem_cons_succ, List.getElem_cons_zero, List.setIfInBounds_toArray, List.set_cons_zero, List.set_cons_succ]
            refine wpAnyH_take (i := 24) (v := ?_) rfl (by kernel_rfl) (by kernel_rfl) (by kernel_rfl) (fun _ _ _ h => h) (Or.inl ⟨by first | kernel_rfl | rfl, ?_⟩) (by assumption) ?_
            rotate_left
            · intro w hSw; (try dsimp only at hSw); (try go_split_ands); go_simp; first | done | with_reducible rfl
            try simp only [Act.put, List.getElem_toArray, List.getElem_cons_succ, List.getElem_cons_zero, List.setIfInBounds_toArray, List.set_cons_zero, List.set_cons_succ]
            refine wpAnyH_take (i := 25) (v := ?_) rfl (by kernel_rfl) (by kernel_rfl) (by kernel_rfl) (fun _ _ _ h => h) (Or.inl ⟨by first | kernel_rfl | rfl, ?_⟩) (by assumption) ?_
            rotate_left
            · intro w hSw; (try dsimp only at hSw); (try go_split_ands); go_simp; first | done | with_reducible rfl
            try simp only [Act.put, List.getElem_toArray, List.getElem_cons_succ, List.getElem_cons_zero, List.setIfInBounds_toArray, List.set_cons_zero, List.set_cons_succ]
            refine wpAnyH_ready (rs := [21]) (by kernel_rfl) (by simp) ?_
            refine AllReadyH.cons rfl (fun K hK => ?_) AllReadyH.nil
            go_simp
            go_at_call 102
            refine Calls.mono HH ?_
            rintro e wa ⟨rfl, L11⟩
            clear HH L10
            go_wp2_with fail
            refine hK.out _ _ ?_ (fun hHeld => ?_)
            · exact hkeep L11
            clear hK K
            try simp only [Act.put, List.getElem_toArray, List.getElem_cons_succ, List.getElem_cons_zero, List.setIfInBounds_toArray, List.set_cons_zero, List.set_cons_succ]
            refine wpAnyH_take (i := 26) (v := ?_) rfl (by kernel_rfl) (by kernel_rfl) (by kernel_rfl) (fun _ _ _ h => h) (Or.inl ⟨by first | kernel_rfl | rfl, ?_⟩) (by assumption) ?_
            rotate_left
            · intro w hSw; (try dsimp only at hSw); (try go_split_ands); go_simp; first | done | with_reducible rfl
            try simp only [Act.put, List.getElem_toArray, List.getElem_cons_succ, List.getElem_cons_zero, List.setIfInBounds_toArray, List.set_cons_zero, List.set_cons_succ]
            refine wpAnyH_take (i := 27) (v := ?_) rfl (by kernel_rfl) (by kernel_rfl) (by kernel_rfl) (fun _ _ _ h => h) (Or.inl ⟨by first | kernel_rfl | rfl, ?_⟩) (by assumption) ?_
            rotate_left
            · intro w hSw; (try dsimp only at hSw); (try go_split_ands); go_simp; first | done | with_reducible rfl
            try simp only [Act.put, List.getElem_toArray, List.getElem_cons_succ, List.getElem_cons_zero, List.setIfInBounds_toArray, List.set_cons_zero, List.set_cons_succ]
            refine wpAnyH_done (by kernel_rfl) ?_ _
            refine NoPanic.normal ?_
            have HF := hfin L11
            obtain ⟨-, -, xA⟩ := hkeep L11
            clear hfin
            go_wp2_with fail
            refine HF.mono ?_
            rintro e wb ⟨rfl, L12⟩
            clear HF L11 xA
            obtain ⟨xc, -, -⟩ := hkeep L12
            have L13 := L12.less (L := fun w X => Slots cs Ls w X ∧ Row (fun b => ¬ X b) w (some ⟨bA, oA, none⟩) n 1 (u64s all)) (stable_slots.and stable_row) (fun w X h => h.2)
            obtain ⟨X, hX⟩ := L13.know
            obtain ⟨v', hv', A', c', e', -, hr⟩ := hX.1 c hc8
            rw [hvc] at hv'
            cases hv'
            cases e'
            have hmem : ∀ a ∈ Ls c, a < 18446744073709551616 := fun a ha => by have := hled.mem hc8 ha; omega
            have HC := L13.checkL (c : Int) (cA := cc) hr rfl hmem (by have := hled.few hc8; omega)
            rw [hled3.lists.told hled3.room hc8] at HC
            clear hX hr X hmem L12 hkeep
            go_wp2_with fail
            refine HC.mono ?_
            rintro e wc ⟨rfl, L14⟩
            clear HC L13 xc
            go_wp2
            go_roundw
            case rel => exact ⟨i + 1, _, by omega, by go_num, hled3, L14⟩
            case measure => simp [intOf]; omega
          · go_wp2
            go_roundw
            case rel => exact ⟨i + 1, G, by omega, by go_num, hled, L7⟩
            case measure => simp [intOf]; omega
    · obtain rfl : i = n := by omega
      have g0 : decide ((i : Int) < i) = false := decide_eq_false (by omega)
      have hg := L6.done
      clear L6
      go_wp2
      go_ret
      exact ⟨rfl, hg⟩
end Go.Proofs.Ck
