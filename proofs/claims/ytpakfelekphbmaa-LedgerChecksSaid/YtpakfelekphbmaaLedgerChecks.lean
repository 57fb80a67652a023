/- LedgerChecks: the walk. -/
import Derived.Test.YtpakfelekphbmaaAwake09
namespace Go.Proofs.Ck
open Go Go.RowKit

set_option maxRecDepth 100000 in
set_option maxHeartbeats 4000000 in
theorem ledgerChecks {w : World} {A D : Option Addr} {n m L : Nat} {kk : List (Nat × Nat)} {l : List Nat} (c : Int) (hl : Puts (fun b => b < w.heap.size) w A kk) (hm : kk.length ≤ 9223372036854775807)
    (hx : ∀ p ∈ kk, p.1 < 18446744073709551616 ∧ p.2 < 18446744073709551616) (hL : l.length = L) (hD : Row (fun b => b < w.heap.size) w D L 1 (u64s l)) (ho : ∀ a ∈ l, a < 18446744073709551616) :
    Calls Try.prog 30 #[.slice A kk.length n, .int .i64 c, .slice D L m] w fun e w' => e = .returned (.bool true) ∧ Grow w w' := by
  by_cases hbig : 20 < L
  · have t0 : decide ((20 : Int) < (L : Int)) = true := decide_eq_true (by omega)
    go_enter Try.func30, Try.ntmps30
    go_wp2_with fail
    refine (awake09 w).mono ?_
    rintro e w1 ⟨rfl, hg⟩
    go_wp2
    go_ret
    exact ⟨rfl, hg⟩
  · have t0 : decide ((20 : Int) < (L : Int)) = false := decide_eq_false (by omega)
    go_enter Try.func30, Try.ntmps30
    go_wp2_with fail
    refine (awake09 w).mono ?_
    rintro e w1 ⟨rfl, hg⟩
    go_wp2_with fail
    refine (formed_S hg hl (K0 := fun w X => Row (fun b => ¬ X b) w D L 1 (u64s l)) stable_row ((hD.grow hg).mono fun b hb hh => by have := hg.size; omega) fun hl1 => formed108 (c := n) 4480 (by unfold fits; omega) hl1 hm hx).mono ?_
    rintro e w2 ⟨base, p, A', n1, c', B', n2, d', rfl, C2⟩
    have hW := fill_W 4480 (kk.take 60)
    generalize fillS ⟨fmtW 600 4480, []⟩ (kk.take 60) = σ at C2 hW
    replace C2 := C2.less (L := fun w X => RefS (.agg #[.slice A' n1 c', .slice B' n2 d']) σ w X ∧ Row (fun b => ¬ X b) w D L 1 (u64s l)) (stable_refS.and stable_row) (fun w X h => ⟨h.1, h.2.2⟩)
    have C3 := C2.alloc #[.slice A' n1 c', .slice B' n2 d'] 67
    clear C2 hl hx hD hg
    have hch : ∀ {w' : World} {q : Nat}, Ctx base (fun _ => False) w w' (.pointer p) σ [(q, #[.slice A' n1 c', .slice B' n2 d'], 67)] (fun w X => RefS (.agg #[.slice A' n1 c', .slice B' n2 d']) σ w X ∧ Row (fun b => ¬ X b) w D L 1 (u64s l)) →
        Calls Try.prog 109 #[.pointer p, .int .i64 c, .slice D L m] w' fun e w2 => e = .returned (.bool (chkB σ.load c l)) ∧ Ctx base (fun _ => False) w w2 (.pointer p) σ [(q, #[.slice A' n1 c', .slice B' n2 d'], 67)] (fun w X => RefS (.agg #[.slice A' n1 c', .slice B' n2 d']) σ w X ∧ Row (fun b => ¬ X b) w D L 1 (u64s l)) := fun {w' q} C => by
      obtain ⟨X, hX⟩ := C.know
      exact C.read (check_call C.any c hL hX.2 ho (by omega))
    have hrc : ∀ {w' : World} {q : Nat}, Ctx base (fun _ => False) w w' (.pointer p) σ [(q, #[.slice A' n1 c', .slice B' n2 d'], 67)] (fun w X => RefS (.agg #[.slice A' n1 c', .slice B' n2 d']) σ w X ∧ Row (fun b => ¬ X b) w D L 1 (u64s l)) →
        Calls Try.prog 110 #[.agg #[.slice A' n1 c', .slice B' n2 d'], .int .i64 c, .slice D L m] w' fun e w2 => e = .returned (.bool (chkB σ.load c l)) ∧ Ctx base (fun _ => False) w w2 (.pointer p) σ [(q, #[.slice A' n1 c', .slice B' n2 d'], 67)] (fun w X => RefS (.agg #[.slice A' n1 c', .slice B' n2 d']) σ w X ∧ Row (fun b => ¬ X b) w D L 1 (u64s l)) := fun {w' q} C => by
      obtain ⟨X, hX⟩ := C.know
      exact C.read (rcheck_call (hX.1.ref (C.fine hW)) c hL hX.2 ho (by omega))
    generalize chkB σ.load c l = z at hch hrc
    have zz : (z == z) = true := by simp
    clear ho hL hW
    go_wp2_with fail
    generalize w2.alloc (Obj.cells #[.slice A' n1 c', .slice B' n2 d'] 67) = w3 at *
    generalize w2.heap.size = q9 at *
    have C4 := C3.drew
    clear C3
    have q0 := C4.cell (List.mem_cons_self ..) 0
    have q1 := C4.cell (List.mem_cons_self ..) 1
    refine region_plain (fun w' => w'.cell? ⟨q9, 0, none⟩ = some (.slice A' n1 c') ∧ w'.cell? ⟨q9, 1, none⟩ = some (.slice B' n2 d')) (by kernel_rfl) ⟨q0, q1⟩ (fun hHeld => ?_)
    refine wpAnyH_take (i := 0) (v := ?_) rfl (by kernel_rfl) (by kernel_rfl) (by kernel_rfl) (fun _ _ _ h => h) (Or.inl ⟨by first | kernel_rfl | rfl, ?_⟩) (by assumption) ?_
    rotate_left
    · intro w hSw; (try dsimp only at hSw); (try go_split_ands); go_simp; first | done | with_reducible rfl
    try simp only [Act.put, List.getElem_toArray, List.getElem_cons_zero, List.setIfInBounds_toArray, List.set_cons_zero, List.set_cons_succ]
    refine wpAnyH_take (i := 1) (v := ?_) rfl (by kernel_rfl) (by kernel_rfl) (by kernel_rfl) (fun _ _ _ h => h) (Or.inl ⟨by first | kernel_rfl | rfl, ?_⟩) (by assumption) ?_
    rotate_left
    · intro w hSw; (try dsimp only at hSw); (try go_split_ands); go_simp; first | done | with_reducible rfl
    try simp only [Act.put, List.getElem_toArray, List.getElem_cons_succ, List.getElem_cons_zero, List.setIfInBounds_toArray, List.set_cons_zero, List.set_cons_succ]
    refine wpAnyH_take (i := 2) (v := ?_) rfl (by kernel_rfl) (by kernel_rfl) (by kernel_rfl) (fun _ _ _ h => h) (Or.inl ⟨by first | kernel_rfl | rfl, ?_⟩) (by assumption) ?_
    rotate_left
    · intro w hSw; (try dsimp only at hSw); (try go_split_ands); go_simp; first | done | with_reducible rfl
    try simp only [Act.put, List.getElem_toArray, List.getElem_cons_succ, List.getElem_cons_zero, List.setIfInBounds_toArray, List.set_cons_zero, List.set_cons_succ]
    refine wpAnyH_take (i := 3) (v := ?_) rfl (by kernel_rfl) (by kernel_rfl) (by kernel_rfl) (fun _ _ _ h => h) (Or.inl ⟨by first | kernel_rfl | rfl, ?_⟩) (by assumption) ?_
    rotate_left
    · intro w hSw; (try dsimp only at hSw); (try go_split_ands); go_simp; first | done | with_reducible rfl
    try simp only [Act.put, List.getElem_toArray, List.getElem_cons_succ, List.getElem_cons_zero, List.setIfInBounds_toArray, List.set_cons_zero, List.set_cons_succ]
    refine wpAnyH_take (i := 4) (v := ?_) rfl (by kernel_rfl) (by kernel_rfl) (by kernel_rfl) (fun _ _ _ h => h) (Or.inl ⟨by first | kernel_rfl | rfl, ?_⟩) (by assumption) ?_
    rotate_left
    · intro w hSw; (try dsimp only at hSw); (try go_split_ands); go_simp; first | done | with_reducible rfl
    try simp only [Act.put, List.getElem_toArray, List.getElem_cons_succ, List.getElem_cons_zero, List.setIfInBounds_toArray, List.set_cons_zero, List.set_cons_succ]
    refine wpAnyH_take (i := 6) (v := ?_) rfl (by kernel_rfl) (by kernel_rfl) (by kernel_rfl) (fun _ _ _ h => h) (Or.inl ⟨by first | kernel_rfl | rfl, ?_⟩) (by assumption) ?_
    rotate_left
    · intro w hSw; (try dsimp only at hSw); (try go_split_ands); go_simp; first | done | with_reducible rfl
    try simp only [Act.put, List.getElem_toArray, List.getElem_cons_succ, List.getElem_cons_zero, List.setIfInBounds_toArray, List.set_cons_zero, List.set_cons_succ]
    refine wpAnyH_take (i := 7) (v := ?_) rfl (by kernel_rfl) (by kernel_rfl) (by kernel_rfl) (fun _ _ _ h => h) (Or.inl ⟨by first | kernel_rfl | rfl, ?_⟩) (by assumption) ?_
    rotate_left
    · intro w hSw; (try dsimp only at hSw); (try go_split_ands); go_simp; first | done | with_reducible rfl
    try simp only [Act.put, List.getElem_toArray, List.getElem_cons_succ, List.getElem_cons_zero, List.setIfInBounds_toArray, List.set_cons_zero, List.set_cons_succ]
    refine wpAnyH_take (i := 8) (v := ?_) rfl (by kernel_rfl) (by kernel_rfl) (by kernel_rfl) (fun _ _ _ h => h) (Or.inl ⟨by first | kernel_rfl | rfl, ?_⟩) (by assumption) ?_
    rotate_left
    · intro w hSw; (try dsimp only at hSw); (try go_split_ands); go_simp; first | done | with_reducible rfl
    try simp only [Act.put, List.getElem_toArray, List.getElem_cons_succ, List.getElem_cons_zero, List.setIfInBounds_toArray, List.set_cons_zero, List.set_cons_succ]
    refine wpAnyH_ready (rs := [5]) (by kernel_rfl) (by simp) ?_
    refine AllReadyH.cons rfl (fun K hK => ?_) AllReadyH.nil
    go_simp
    go_at_call 109
    refine Calls.mono (hch C4) ?_
    rintro e w5 ⟨rfl, C5⟩
    clear C4 q0 q1
    go_wp2_with fail
    refine hK.out _ _ ?_ (fun hHeld => ?_)
    · exact ⟨C5.cell (List.mem_cons_self ..) 0, C5.cell (List.mem_cons_self ..) 1⟩
    clear hK K
    try simp only [Act.put, List.getElem_toArray, List.getElem_cons_succ, List.getElem_cons_zero, List.setIfInBounds_toArray, List.set_cons_zero, List.set_cons_succ]
    refine wpAnyH_ready (rs := [9]) (by kernel_rfl) (by simp) ?_
    refine AllReadyH.cons rfl (fun K hK => ?_) AllReadyH.nil
    go_simp
    go_at_call 110
    refine Calls.mono (hrc C5) ?_
    rintro e w6 ⟨rfl, C6⟩
    clear C5
    go_wp2_with fail
    refine hK.out _ _ ?_ (fun hHeld => ?_)
    · exact ⟨C6.cell (List.mem_cons_self ..) 0, C6.cell (List.mem_cons_self ..) 1⟩
    clear hK K
    try simp only [Act.put, List.getElem_toArray, List.getElem_cons_succ, List.getElem_cons_zero, List.setIfInBounds_toArray, List.set_cons_zero, List.set_cons_succ]
    refine wpAnyH_take (i := 10) (v := ?_) rfl (by kernel_rfl) (by kernel_rfl) (by kernel_rfl) (fun _ _ _ h => h) (Or.inl ⟨by first | kernel_rfl | rfl, ?_⟩) (by assumption) ?_
    rotate_left
    · intro w hSw; (try dsimp only at hSw); (try go_split_ands); go_simp; first | done | with_reducible rfl
    try simp only [Act.put, List.getElem_toArray, List.getElem_cons_succ, List.getElem_cons_zero, List.setIfInBounds_toArray, List.set_cons_zero, List.set_cons_succ]
    refine wpAnyH_take (i := 11) (v := ?_) rfl (by kernel_rfl) (by kernel_rfl) (by kernel_rfl) (fun _ _ _ h => h) (Or.inl ⟨by first | kernel_rfl | rfl, ?_⟩) (by assumption) ?_
    rotate_left
    · intro w hSw; (try dsimp only at hSw); (try go_split_ands); go_simp; first | done | with_reducible rfl
    try simp only [Act.put, List.getElem_toArray, List.getElem_cons_succ, List.getElem_cons_zero, List.setIfInBounds_toArray, List.set_cons_zero, List.set_cons_succ]
    refine wpAnyH_take (i := 12) (v := ?_) rfl (by kernel_rfl) (by kernel_rfl) (by kernel_rfl) (fun _ _ _ h => h) (Or.inl ⟨by first | kernel_rfl | rfl, ?_⟩) (by assumption) ?_
    rotate_left
    · intro w hSw; (try dsimp only at hSw); (try go_split_ands); go_simp; first | done | with_reducible rfl
    try simp only [Act.put, List.getElem_toArray, List.getElem_cons_succ, List.getElem_cons_zero, List.setIfInBounds_toArray, List.set_cons_zero, List.set_cons_succ]
    refine wpAnyH_done (by kernel_rfl) ?_ _
    refine NoPanic.normal ?_
    have hg := C6.done
    clear C6 hch hrc
    go_wp2
    go_ret
    exact ⟨rfl, hg⟩
end Go.Proofs.Ck
