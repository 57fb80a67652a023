/- DirPlays: the walk. -/
import Derived.Test.YtpakfelekphbmaaDirL2
namespace Go.Proofs.Ck
open Go Go.RowKit

set_option maxRecDepth 100000 in
theorem entries_self {S S' : Nat → Prop} {w : World} {A A' : Option Addr} {c c' n : Nat} {l : List (ByteArray × Nat)} (h0 : Row S w A n 2 (ents l)) (h1 : Row S' w A' n 2 (ents l)) (e : l.length = n) (hn : n ≤ 17592186044416) :
    Calls Try.prog 131 #[.slice A n c, .slice A' n c'] w fun e w' => e = .returned (.bool true) ∧ Grow w w' := by
  subst e
  have tn : ((l.length : Int) != l.length) = false := by simp
  go_enter Try.func131, Try.ntmps131
  go_wp2
  go_loopw [5] (fun i wr => ∃ k : Nat, k ≤ l.length ∧ i = .int .i64 (k : Int) ∧ Grow w wr) (fun i _ => l.length - (intOf i).toNat)
  case atStart => exact ⟨0, Nat.zero_le _, rfl, Below.refl _ _⟩
  case round =>
    obtain ⟨k, hk, rfl, hg⟩ := hrel
    by_cases hlt : k < l.length
    · obtain ⟨b, o, rfl, _, hc⟩ := (h0.grow hg).pos (by omega) (by omega)
      obtain ⟨b', o', rfl, _, hc'⟩ := (h1.grow hg).pos (by omega) (by omega)
      obtain ⟨d, hd⟩ : ∃ d, l[k]? = some d := ⟨_, List.getElem?_eq_getElem hlt⟩
      obtain ⟨e1, e2⟩ := ents_get hd
      have x0 := hc _ _ e1
      have x1 := hc _ _ e2
      have y0 := hc' _ _ e1
      have y1 := hc' _ _ e2
      rw [← Nat.add_assoc] at x1 y1
      clear hc hc' h0 h1 hd e1 e2
      obtain ⟨s, q⟩ := d
      dsimp only at x0 x1 y0 y1
      have t3 : ((q : Int) != q) = false := by simp
      have g0 : decide ((k : Int) < l.length) = true := decide_eq_true (by omega)
      have gi0 : (0 : Int) ≤ k := by omega
      have gi1 : (k : Int) < l.length := by omega
      go_wp2
      go_quiet (fail)
      go_wp2
      go_roundw
      case rel => exact ⟨k + 1, by omega, by go_num, hg.drewN nq⟩
      case measure => simp [intOf]; omega
    · obtain rfl : k = l.length := by omega
      have g0 : decide ((l.length : Int) < l.length) = false := decide_eq_false (by omega)
      clear h0 h1
      go_wp2
      go_ret
      exact ⟨rfl, hg⟩

section
variable {base : Nat} {M0 : Nat → Prop} {w0 w w' : World} {v rv : Value} {σ : St} {bx : List Bx} {K : World → (Nat → Prop) → Prop}
theorem Ctx.refF (h : Ctx base M0 w0 w v σ bx fun w X => RefS rv σ w X ∧ K w X) (hW : σ.W.length = 600) : ∃ X, RefF rv σ.load w X := by
  obtain ⟨X, hX⟩ := h.know
  exact ⟨X, hX.1.ref (h.fine hW)⟩
theorem Ctx.rowCall {g : FuncId} {args : Array Value} {n k : Nat} {xs : List Value} (h : Ctx base M0 w0 w v σ bx K)
    (hc : Calls Try.prog g args w fun e w' => ∃ A c, e = .returned (.slice A n c) ∧ Row (fun b => w.heap.size ≤ b) w' A n k xs ∧ Grow w w') :
    Calls Try.prog g args w fun e w' => ∃ A c, e = .returned (.slice A n c) ∧ Ctx base M0 w0 w' v σ bx fun w X => Row (fun b => ¬ X b) w A n k xs ∧ K w X :=
  hc.mono fun _ _ ⟨A, c, h1, h2, h3⟩ => ⟨A, c, h1, h.addRow h3 h2⟩
end

set_option maxRecDepth 100000 in
set_option maxHeartbeats 4000000 in
theorem dirPlays {w : World} {A D : Option Addr} {n m : Nat} {kk : List (Nat × Nat)} {l : List Dd} (nm : ByteArray) (hl : Puts (fun b => b < w.heap.size) w A kk) (hm : kk.length ≤ 9223372036854775807)
    (hx : ∀ p ∈ kk, p.1 < 18446744073709551616 ∧ p.2 < 18446744073709551616) (hD : Row (fun b => b < w.heap.size) w D l.length 3 (ddeeds l)) (hdl : l.length ≤ 9223372036854775807) (ho : ∀ d ∈ l, d.2.2 < 18446744073709551616) :
    Calls Try.prog 37 #[.slice A kk.length n, .slice D l.length m, .string nm] w fun e w' => e = .returned (.bool true) ∧ Grow w w' := by
  by_cases hbig : 100 < nm.size
  · have t0 : decide ((100 : Int) < (nm.size : Int)) = true := decide_eq_true (by omega)
    go_enter Try.func37, Try.ntmps37
    go_wp2_with fail
    refine (awake13 w).mono ?_
    rintro e w1 ⟨rfl, hg⟩
    go_wp2
    go_ret
    exact ⟨rfl, hg⟩
  · have t0 : decide ((100 : Int) < (nm.size : Int)) = false := decide_eq_false (by omega)
    have hsz : nm.size ≤ 100 := by omega
    go_enter Try.func37, Try.ntmps37
    go_wp2_with fail
    refine (awake13 w).mono ?_
    rintro e w1 ⟨rfl, hg⟩
    go_wp2_with fail
    refine (played_S (K0 := fun _ _ => True) hg hl hm hx hD hdl ho stable_true trivial).mono ?_
    rintro e w2 ⟨base, p, A1, n1, c1, B1, m1, d1, rfl, C2⟩
    have hW : (deedsS (fillS ⟨fmtW 600 4480, []⟩ (kk.take 60)) (l.take 40)).W.length = 600 := by rw [deedsS_W, fill_W]
    generalize deedsS (fillS ⟨fmtW 600 4480, []⟩ (kk.take 60)) (l.take 40) = σ at C2 hW
    have HW := Lib.hid hW
    clear hl hx hD hg hdl ho hm hW hbig
    have C3 := C2.alloc #[.slice A1 n1 c1, .slice B1 m1 d1] 67
    clear C2
    have D1 := C3.read (find_call C3.any nm)
    have hfl := C3.any.lt
    obtain ⟨x, hxv⟩ : ∃ x, findV σ.load nm = x := ⟨_, rfl⟩
    obtain ⟨b, hb⟩ : ∃ b, findB σ.load nm = b := ⟨_, rfl⟩
    obtain ⟨E, hE⟩ : ∃ E, roomE σ.load nm = E := ⟨_, rfl⟩
    obtain ⟨L, hL⟩ : ∃ L, entsN σ.load 16 = L := ⟨_, rfl⟩
    have hx64 : x < 18446744073709551616 := by
      rw [← hxv]
      unfold findV
      split
      · omega
      · exact hfl _
    obtain ⟨z, hz⟩ : ∃ z, namedB σ.load x = z := ⟨_, rfl⟩
    have hL16 : L.length ≤ 16 := by rw [← hL]; exact ents_len _ _
    have HH := Lib.hid (⟨hxv, hb, hE, hL, hz⟩ : _ ∧ _ ∧ _ ∧ _ ∧ _)
    rw [hxv, hb] at D1
    clear hxv hb hE hL hz
    go_wp2_with fail
    generalize w2.alloc (Obj.cells #[.slice A1 n1 c1, .slice B1 m1 d1] 67) = w3 at *
    generalize w2.heap.size = q9 at *
    refine D1.mono ?_
    rintro e w4 ⟨rfl, C4⟩
    clear D1 C3
    have q0 := C4.cell (List.mem_cons_self ..) 0
    have q1 := C4.cell (List.mem_cons_self ..) 1
    obtain ⟨X4, hr4⟩ := C4.refF HW.out
    have D1 := C4.read (rfind_call hr4 nm hsz)
    rw [HH.out.1, HH.out.2.1] at D1
    go_wp2_with fail
    refine D1.mono ?_
    rintro e w5 ⟨rfl, C5⟩
    clear D1 C4 hr4 q0 q1
    have q0 := C5.cell (List.mem_cons_self ..) 0
    have q1 := C5.cell (List.mem_cons_self ..) 1
    have C5d := C5.drew
    clear C5
    have bb : (b == b) = true := by simp
    have xx : ((x : Int) == x) = true := by simp
    have EE : ((E : Int) == E) = true := by simp
    have zz : (z == z) = true := by simp
    go_wp2
    refine region_plain (fun w' => w'.cell? ⟨q9, 0, none⟩ = some (.slice A1 n1 c1) ∧ w'.cell? ⟨q9, 1, none⟩ = some (.slice B1 m1 d1)) (by kernel_rfl) ⟨q0, q1⟩ (fun hHeld => ?_)
    refine wpAnyH_take (i := 0) (v := ?_) rfl (by kernel_rfl) (by kernel_rfl) (by kernel_rfl) (fun _ _ _ h => h) (Or.inl ⟨by first | kernel_rfl | rfl, ?_⟩) (by assumption) ?_
    rotate_left
    · intro w hSw; (try dsimp only at hSw); (try go_split_ands); go_simp; first | done | with_reducible rfl
    try simp only [Act.put, List.getElem_toArray, List.getElem_cons_zero, List.setIfInBounds_toArray, List.set_cons_zero, List.set_cons_succ]
    refine wpAnyH_take (i := 1) (v := ?_) rfl (by kernel_rfl) (by kernel_rfl) (by kernel_rfl) (fun _ _ _ h => h) (Or.inl ⟨by first | kernel_rfl | rfl, ?_⟩) (by assumption) ?_
    rotate_left
    · intro w hSw; (try dsimp only at hSw); (try go_split_ands); go_simp; first | done | with_reducible rfl
    try simp only [Act.put, List.getElem_toArray, List.getElem_cons_succ, List.getElem_cons_zero, List.setIfInBounds_toArray, List.set_cons_zero, List.set_cons_succ]
    refine wpAnyH_take (i := 2) (v := ?_) rfl (by kernel_rfl) (by kernel_rfl) (by kernel_rfl) (fun _ _ _ h => h) (Or.inl ⟨by first | kernel_rfl | rfl, ?_⟩) (by assumption) ?_
    rotate_left
    · intro w hSw; (try dsimp only at hSw); (try go_split_ands); go_simp; first | done | with_reducible rfl
    try simp only [Act.put, List.getElem_toArray, List.getElem_cons_succ, List.getElem_cons_zero, List.setIfInBounds_toArray, List.set_cons_zero, List.set_cons_succ]
    refine wpAnyH_take (i := 3) (v := ?_) rfl (by kernel_rfl) (by kernel_rfl) (by kernel_rfl) (fun _ _ _ h => h) (Or.inl ⟨by first | kernel_rfl | rfl, ?_⟩) (by assumption) ?_
    rotate_left
    · intro w hSw; (try dsimp only at hSw); (try go_split_ands); go_simp; first | done | with_reducible rfl
    try simp only [Act.put, List.getElem_toArray, List.getElem_cons_succ, List.getElem_cons_zero, List.setIfInBounds_toArray, List.set_cons_zero, List.set_cons_succ]
    refine wpAnyH_take (i := 4) (v := ?_) rfl (by kernel_rfl) (by kernel_rfl) (by kernel_rfl) (fun _ _ _ h => h) (Or.inl ⟨by first | kernel_rfl | rfl, ?_⟩) (by assumption) ?_
    rotate_left
    · intro w hSw; (try dsimp only at hSw); (try go_split_ands); go_simp; first | done | with_reducible rfl
    try simp only [Act.put, List.getElem_toArray, List.getElem_cons_succ, List.getElem_cons_zero, List.setIfInBounds_toArray, List.set_cons_zero, List.set_cons_succ]
    refine wpAnyH_take (i := 5) (v := ?_) rfl (by kernel_rfl) (by kernel_rfl) (by kernel_rfl) (fun _ _ _ h => h) (Or.inl ⟨by first | kernel_rfl | rfl, ?_⟩) (by assumption) ?_
    rotate_left
    · intro w hSw; (try dsimp only at hSw); (try go_split_ands); go_simp; first | done | with_reducible rfl
    try simp only [Act.put, List.getElem_toArray, List.getElem_cons_succ, List.getElem_cons_zero, List.setIfInBounds_toArray, List.set_cons_zero, List.set_cons_succ]
    refine wpAnyH_take (i := 6) (v := ?_) rfl (by kernel_rfl) (by kernel_rfl) (by kernel_rfl) (fun _ _ _ h => h) (Or.inl ⟨by first | kernel_rfl | rfl, ?_⟩) (by assumption) ?_
    rotate_left
    · intro w hSw; (try dsimp only at hSw); (try go_split_ands); go_simp; first | done | with_reducible rfl
    try simp only [Act.put, List.getElem_toArray, List.getElem_cons_succ, List.getElem_cons_zero, List.setIfInBounds_toArray, List.set_cons_zero, List.set_cons_succ]
    refine wpAnyH_take (i := 7) (v := ?_) rfl (by kernel_rfl) (by kernel_rfl) (by kernel_rfl) (fun _ _ _ h => h) (Or.inl ⟨by first | kernel_rfl | rfl, ?_⟩) (by assumption) ?_
    rotate_left
    · intro w hSw; (try dsimp only at hSw); (try go_split_ands); go_simp; first | done | with_reducible rfl
    try simp only [Act.put, List.getElem_toArray, List.getElem_cons_succ, List.getElem_cons_zero, List.setIfInBounds_toArray, List.set_cons_zero, List.set_cons_succ]
    refine wpAnyH_take (i := 8) (v := ?_) rfl (by kernel_rfl) (by kernel_rfl) (by kernel_rfl) (fun _ _ _ h => h) (Or.inl ⟨by first | kernel_rfl | rfl, ?_⟩) (by assumption) ?_
    rotate_left
    · intro w hSw; (try dsimp only at hSw); (try go_split_ands); go_simp; first | done | with_reducible rfl
    try simp only [Act.put, List.getElem_toArray, List.getElem_cons_succ, List.getElem_cons_zero, List.setIfInBounds_toArray, List.set_cons_zero, List.set_cons_succ]
    refine wpAnyH_take (i := 9) (v := ?_) rfl (by kernel_rfl) (by kernel_rfl) (by kernel_rfl) (fun _ _ _ h => h) (Or.inl ⟨by first | kernel_rfl | rfl, ?_⟩) (by assumption) ?_
    rotate_left
    · intro w hSw; (try dsimp only at hSw); (try go_split_ands); go_simp; first | done | with_reducible rfl
    try simp only [Act.put, List.getElem_toArray, List.getElem_cons_succ, List.getElem_cons_zero, List.setIfInBounds_toArray, List.set_cons_zero, List.set_cons_succ]
    refine wpAnyH_take (i := 10) (v := ?_) rfl (by kernel_rfl) (by kernel_rfl) (by kernel_rfl) (fun _ _ _ h => h) (Or.inl ⟨by first | kernel_rfl | rfl, ?_⟩) (by assumption) ?_
    rotate_left
    · intro w hSw; (try dsimp only at hSw); (try go_split_ands); go_simp; first | done | with_reducible rfl
    try simp only [Act.put, List.getElem_toArray, List.getElem_cons_succ, List.getElem_cons_zero, List.setIfInBounds_toArray, List.set_cons_zero, List.set_cons_succ]
    refine wpAnyH_take (i := 11) (v := ?_) rfl (by kernel_rfl) (by kernel_rfl) (by kernel_rfl) (fun _ _ _ h => h) (Or.inl ⟨by first | kernel_rfl | rfl, ?_⟩) (by assumption) ?_
    rotate_left
    · intro w hSw; (try dsimp only at hSw); (try go_split_ands); go_simp; first | done | with_reducible rfl
    try simp only [Act.put, List.getElem_toArray, List.getElem_cons_succ, List.getElem_cons_zero, List.setIfInBounds_toArray, List.set_cons_zero, List.set_cons_succ]
    refine wpAnyH_take (i := 12) (v := ?_) rfl (by kernel_rfl) (by kernel_rfl) (by kernel_rfl) (fun _ _ _ h => h) (Or.inl ⟨by first | kernel_rfl | rfl, ?_⟩) (by assumption) ?_
    rotate_left
    · intro w hSw; (try dsimp only at hSw); (try go_split_ands); go_simp; first | done | with_reducible rfl
    try simp only [Act.put, List.getElem_toArray, List.getElem_cons_succ, List.getElem_cons_zero, List.setIfInBounds_toArray, List.set_cons_zero, List.set_cons_succ]
    refine wpAnyH_take (i := 13) (v := ?_) rfl (by kernel_rfl) (by kernel_rfl) (by kernel_rfl) (fun _ _ _ h => h) (Or.inl ⟨by first | kernel_rfl | rfl, ?_⟩) (by assumption) ?_
    rotate_left
    · intro w hSw; (try dsimp only at hSw); (try go_split_ands); go_simp; first | done | with_reducible rfl
    try simp only [Act.put, List.getElem_toArray, List.getElem_cons_succ, List.getElem_cons_zero, List.setIfInBounds_toArray, List.set_cons_zero, List.set_cons_succ]
    refine wpAnyH_take (i := 14) (v := ?_) rfl (by kernel_rfl) (by kernel_rfl) (by kernel_rfl) (fun _ _ _ h => h) (Or.inl ⟨by first | kernel_rfl | rfl, ?_⟩) (by assumption) ?_
    rotate_left
    · intro w hSw; (try dsimp only at hSw); (try go_split_ands); go_simp; first | done | with_reducible rfl
    try simp only [Act.put, List.getElem_toArray, List.getElem_cons_succ, List.getElem_cons_zero, List.setIfInBounds_toArray, List.set_cons_zero, List.set_cons_succ]
    refine wpAnyH_take (i := 15) (v := ?_) rfl (by kernel_rfl) (by kernel_rfl) (by kernel_rfl) (fun _ _ _ h => h) (Or.inl ⟨by first | kernel_rfl | rfl, ?_⟩) (by assumption) ?_
    rotate_left
    · intro w hSw; (try dsimp only at hSw); (try go_split_ands); go_simp; first | done | with_reducible rfl
    try simp only [Act.put, List.getElem_toArray, List.getElem_cons_succ, List.getElem_cons_zero, List.setIfInBounds_toArray, List.set_cons_zero, List.set_cons_succ]
    refine wpAnyH_take (i := 16) (v := ?_) rfl (by kernel_rfl) (by kernel_rfl) (by kernel_rfl) (fun _ _ _ h => h) (Or.inl ⟨by first | kernel_rfl | rfl, ?_⟩) (by assumption) ?_
    rotate_left
    · intro w hSw; (try dsimp only at hSw); (try go_split_ands); go_simp; first | done | with_reducible rfl
    try simp only [Act.put, List.getElem_toArray, List.getElem_cons_succ, List.getElem_cons_zero, List.setIfInBounds_toArray, List.set_cons_zero, List.set_cons_succ]
    refine wpAnyH_take (i := 18) (v := ?_) rfl (by kernel_rfl) (by kernel_rfl) (by kernel_rfl) (fun _ _ _ h => h) (Or.inl ⟨by first | kernel_rfl | rfl, ?_⟩) (by assumption) ?_
    rotate_left
    · intro w hSw; (try dsimp only at hSw); (try go_split_ands); go_simp; first | done | with_reducible rfl
    try simp only [Act.put, List.getElem_toArray, List.getElem_cons_succ, List.getElem_cons_zero, List.setIfInBounds_toArray, List.set_cons_zero, List.set_cons_succ]
    refine wpAnyH_take (i := 19) (v := ?_) rfl (by kernel_rfl) (by kernel_rfl) (by kernel_rfl) (fun _ _ _ h => h) (Or.inl ⟨by first | kernel_rfl | rfl, ?_⟩) (by assumption) ?_
    rotate_left
    · intro w hSw; (try dsimp only at hSw); (try go_split_ands); go_simp; first | done | with_reducible rfl
    try simp only [Act.put, List.getElem_toArray, List.getElem_cons_succ, List.getElem_cons_zero, List.setIfInBounds_toArray, List.set_cons_zero, List.set_cons_succ]
    refine wpAnyH_ready (rs := [17]) (by kernel_rfl) (by simp) ?_
    refine AllReadyH.cons rfl (fun K hK => ?_) AllReadyH.nil
    go_simp
    go_at_call 129
    have D1 := C5d.read (room_call C5d.any nm)
    rw [HH.out.2.2.1] at D1
    refine Calls.mono D1 ?_
    rintro e w6 ⟨rfl, C6⟩
    clear D1 C5d q0 q1
    go_wp2_with fail
    refine hK.out _ _ ?_ (fun hHeld => ?_)
    · exact ⟨C6.cell (List.mem_cons_self ..) 0, C6.cell (List.mem_cons_self ..) 1⟩
    clear hK K
    try simp only [Act.put, List.getElem_toArray, List.getElem_cons_succ, List.getElem_cons_zero, List.setIfInBounds_toArray, List.set_cons_zero, List.set_cons_succ]
    obtain ⟨X6, hr6⟩ := C6.refF HW.out
    have D1 := C6.read (rroom_call hr6 nm hsz)
    rw [HH.out.2.2.1] at D1
    refine wpAnyH_ready (rs := [20]) (by kernel_rfl) (by simp) ?_
    refine AllReadyH.cons rfl (fun K hK => ?_) AllReadyH.nil
    go_simp
    go_at_call 130
    refine Calls.mono D1 ?_
    rintro e w7 ⟨rfl, C7⟩
    clear D1 C6 hr6
    go_wp2_with fail
    refine hK.out _ _ ?_ (fun hHeld => ?_)
    · exact ⟨C7.cell (List.mem_cons_self ..) 0, C7.cell (List.mem_cons_self ..) 1⟩
    clear hK K
    try simp only [Act.put, List.getElem_toArray, List.getElem_cons_succ, List.getElem_cons_zero, List.setIfInBounds_toArray, List.set_cons_zero, List.set_cons_succ]
    refine wpAnyH_take (i := 21) (v := ?_) rfl (by kernel_rfl) (by kernel_rfl) (by kernel_rfl) (fun _ _ _ h => h) (Or.inl ⟨by first | kernel_rfl | rfl, ?_⟩) (by assumption) ?_
    rotate_left
    · intro w hSw; (try dsimp only at hSw); (try go_split_ands); go_simp; first | done | with_reducible rfl
    try simp only [Act.put, List.getElem_toArray, List.getElem_cons_succ, List.getElem_cons_zero, List.setIfInBounds_toArray, List.set_cons_zero, List.set_cons_succ]
    refine wpAnyH_take (i := 22) (v := ?_) rfl (by kernel_rfl) (by kernel_rfl) (by kernel_rfl) (fun _ _ _ h => h) (Or.inl ⟨by first | kernel_rfl | rfl, ?_⟩) (by assumption) ?_
    rotate_left
    · intro w hSw; (try dsimp only at hSw); (try go_split_ands); go_simp; first | done | with_reducible rfl
    try simp only [Act.put, List.getElem_toArray, List.getElem_cons_succ, List.getElem_cons_zero, List.setIfInBounds_toArray, List.set_cons_zero, List.set_cons_succ]
    refine wpAnyH_take (i := 23) (v := ?_) rfl (by kernel_rfl) (by kernel_rfl) (by kernel_rfl) (fun _ _ _ h => h) (Or.inl ⟨by first | kernel_rfl | rfl, ?_⟩) (by assumption) ?_
    rotate_left
    · intro w hSw; (try dsimp only at hSw); (try go_split_ands); go_simp; first | done | with_reducible rfl
    try simp only [Act.put, List.getElem_toArray, List.getElem_cons_succ, List.getElem_cons_zero, List.setIfInBounds_toArray, List.set_cons_zero, List.set_cons_succ]
    refine wpAnyH_take (i := 24) (v := ?_) rfl (by kernel_rfl) (by kernel_rfl) (by kernel_rfl) (fun _ _ _ h => h) (Or.inl ⟨by first | kernel_rfl | rfl, ?_⟩) (by assumption) ?_
    rotate_left
    · intro w hSw; (try dsimp only at hSw); (try go_split_ands); go_simp; first | done | with_reducible rfl
    try simp only [Act.put, List.getElem_toArray, List.getElem_cons_succ, List.getElem_cons_zero, List.setIfInBounds_toArray, List.set_cons_zero, List.set_cons_succ]
    refine wpAnyH_take (i := 26) (v := ?_) rfl (by kernel_rfl) (by kernel_rfl) (by kernel_rfl) (fun _ _ _ h => h) (Or.inl ⟨by first | kernel_rfl | rfl, ?_⟩) (by assumption) ?_
    rotate_left
    · intro w hSw; (try dsimp only at hSw); (try go_split_ands); go_simp; first | done | with_reducible rfl
    try simp only [Act.put, List.getElem_toArray, List.getElem_cons_succ, List.getElem_cons_zero, List.setIfInBounds_toArray, List.set_cons_zero, List.set_cons_succ]
    have D1 := C7.rowCall (dall_call C7.any)
    rw [HH.out.2.2.2.1] at D1
    refine wpAnyH_ready (rs := [25]) (by kernel_rfl) (by simp) ?_
    refine AllReadyH.cons rfl (fun K hK => ?_) AllReadyH.nil
    go_simp
    go_at_call 132
    refine Calls.mono D1 ?_
    rintro e w8 ⟨R1, k1, rfl, C8⟩
    clear D1 C7
    go_wp2_with fail
    refine hK.out _ _ ?_ (fun hHeld => ?_)
    · exact ⟨C8.cell (List.mem_cons_self ..) 0, C8.cell (List.mem_cons_self ..) 1⟩
    clear hK K
    try simp only [Act.put, List.getElem_toArray, List.getElem_cons_succ, List.getElem_cons_zero, List.setIfInBounds_toArray, List.set_cons_zero, List.set_cons_succ]
    have hrX : ∃ X, RefF (.agg #[.slice A1 n1 c1, .slice B1 m1 d1]) σ.load w8 X := by
      obtain ⟨X, hX⟩ := C8.know
      exact ⟨X, hX.2.1.ref (C8.fine HW.out)⟩
    obtain ⟨X8, hr8⟩ := hrX
    have D1 := C8.rowCall (rdall_call hr8 hfl)
    rw [HH.out.2.2.2.1] at D1
    refine wpAnyH_ready (rs := [27]) (by kernel_rfl) (by simp) ?_
    refine AllReadyH.cons rfl (fun K hK => ?_) AllReadyH.nil
    go_simp
    go_at_call 133
    refine Calls.mono D1 ?_
    rintro e w9 ⟨R2, k2, rfl, C9⟩
    clear D1 C8 hr8
    go_wp2_with fail
    refine hK.out _ _ ?_ (fun hHeld => ?_)
    · exact ⟨C9.cell (List.mem_cons_self ..) 0, C9.cell (List.mem_cons_self ..) 1⟩
    clear hK K
    try simp only [Act.put, List.getElem_toArray, List.getElem_cons_succ, List.getElem_cons_zero, List.setIfInBounds_toArray, List.set_cons_zero, List.set_cons_succ]
    obtain ⟨X9, hX9⟩ := C9.know
    have D1 := C9.read (entries_self (c := k1) (c' := k2) hX9.2.1 hX9.1 rfl (by omega))
    clear hX9
    refine wpAnyH_ready (rs := [28]) (by kernel_rfl) (by simp) ?_
    refine AllReadyH.cons rfl (fun K hK => ?_) AllReadyH.nil
    go_simp
    go_at_call 131
    refine Calls.mono D1 ?_
    rintro e w10 ⟨rfl, C10⟩
    clear D1 C9
    go_wp2_with fail
    refine hK.out _ _ ?_ (fun hHeld => ?_)
    · exact ⟨C10.cell (List.mem_cons_self ..) 0, C10.cell (List.mem_cons_self ..) 1⟩
    clear hK K
    try simp only [Act.put, List.getElem_toArray, List.getElem_cons_succ, List.getElem_cons_zero, List.setIfInBounds_toArray, List.set_cons_zero, List.set_cons_succ]
    refine wpAnyH_take (i := 29) (v := ?_) rfl (by kernel_rfl) (by kernel_rfl) (by kernel_rfl) (fun _ _ _ h => h) (Or.inl ⟨by first | kernel_rfl | rfl, ?_⟩) (by assumption) ?_
    rotate_left
    · intro w hSw; (try dsimp only at hSw); (try go_split_ands); go_simp; first | done | with_reducible rfl
    try simp only [Act.put, List.getElem_toArray, List.getElem_cons_succ, List.getElem_cons_zero, List.setIfInBounds_toArray, List.set_cons_zero, List.set_cons_succ]
    refine wpAnyH_take (i := 30) (v := ?_) rfl (by kernel_rfl) (by kernel_rfl) (by kernel_rfl) (fun _ _ _ h => h) (Or.inl ⟨by first | kernel_rfl | rfl, ?_⟩) (by assumption) ?_
    rotate_left
    · intro w hSw; (try dsimp only at hSw); (try go_split_ands); go_simp; first | done | with_reducible rfl
    try simp only [Act.put, List.getElem_toArray, List.getElem_cons_succ, List.getElem_cons_zero, List.setIfInBounds_toArray, List.set_cons_zero, List.set_cons_succ]
    refine wpAnyH_take (i := 31) (v := ?_) rfl (by kernel_rfl) (by kernel_rfl) (by kernel_rfl) (fun _ _ _ h => h) (Or.inl ⟨by first | kernel_rfl | rfl, ?_⟩) (by assumption) ?_
    rotate_left
    · intro w hSw; (try dsimp only at hSw); (try go_split_ands); go_simp; first | done | with_reducible rfl
    try simp only [Act.put, List.getElem_toArray, List.getElem_cons_succ, List.getElem_cons_zero, List.setIfInBounds_toArray, List.set_cons_zero, List.set_cons_succ]
    refine wpAnyH_take (i := 32) (v := ?_) rfl (by kernel_rfl) (by kernel_rfl) (by kernel_rfl) (fun _ _ _ h => h) (Or.inl ⟨by first | kernel_rfl | rfl, ?_⟩) (by assumption) ?_
    rotate_left
    · intro w hSw; (try dsimp only at hSw); (try go_split_ands); go_simp; first | done | with_reducible rfl
    try simp only [Act.put, List.getElem_toArray, List.getElem_cons_succ, List.getElem_cons_zero, List.setIfInBounds_toArray, List.set_cons_zero, List.set_cons_succ]
    refine wpAnyH_take (i := 34) (v := ?_) rfl (by kernel_rfl) (by kernel_rfl) (by kernel_rfl) (fun _ _ _ h => h) (Or.inl ⟨by first | kernel_rfl | rfl, ?_⟩) (by assumption) ?_
    rotate_left
    · intro w hSw; (try dsimp only at hSw); (try go_split_ands); go_simp; first | done | with_reducible rfl
    try simp only [Act.put, List.getElem_toArray, List.getElem_cons_succ, List.getElem_cons_zero, List.setIfInBounds_toArray, List.set_cons_zero, List.set_cons_succ]
    refine wpAnyH_take (i := 35) (v := ?_) rfl (by kernel_rfl) (by kernel_rfl) (by kernel_rfl) (fun _ _ _ h => h) (Or.inl ⟨by first | kernel_rfl | rfl, ?_⟩) (by assumption) ?_
    rotate_left
    · intro w hSw; (try dsimp only at hSw); (try go_split_ands); go_simp; first | done | with_reducible rfl
    try simp only [Act.put, List.getElem_toArray, List.getElem_cons_succ, List.getElem_cons_zero, List.setIfInBounds_toArray, List.set_cons_zero, List.set_cons_succ]
    have D1 := C10.read (named_call C10.any x hx64)
    rw [HH.out.2.2.2.2] at D1
    refine wpAnyH_ready (rs := [33]) (by kernel_rfl) (by simp) ?_
    refine AllReadyH.cons rfl (fun K hK => ?_) AllReadyH.nil
    go_simp
    go_at_call 134
    refine Calls.mono D1 ?_
    rintro e w11 ⟨rfl, C11⟩
    clear D1 C10
    go_wp2_with fail
    refine hK.out _ _ ?_ (fun hHeld => ?_)
    · exact ⟨C11.cell (List.mem_cons_self ..) 0, C11.cell (List.mem_cons_self ..) 1⟩
    clear hK K
    try simp only [Act.put, List.getElem_toArray, List.getElem_cons_succ, List.getElem_cons_zero, List.setIfInBounds_toArray, List.set_cons_zero, List.set_cons_succ]
    have hrX : ∃ X, RefF (.agg #[.slice A1 n1 c1, .slice B1 m1 d1]) σ.load w11 X := by
      obtain ⟨X, hX⟩ := C11.know
      exact ⟨X, hX.2.2.1.ref (C11.fine HW.out)⟩
    obtain ⟨X11, hr11⟩ := hrX
    have D1 := C11.read (rnamed_call hr11 x hx64)
    rw [HH.out.2.2.2.2] at D1
    refine wpAnyH_ready (rs := [36]) (by kernel_rfl) (by simp) ?_
    refine AllReadyH.cons rfl (fun K hK => ?_) AllReadyH.nil
    go_simp
    go_at_call 135
    refine Calls.mono D1 ?_
    rintro e w12 ⟨rfl, C12⟩
    clear D1 C11 hr11
    go_wp2_with fail
    refine hK.out _ _ ?_ (fun hHeld => ?_)
    · exact ⟨C12.cell (List.mem_cons_self ..) 0, C12.cell (List.mem_cons_self ..) 1⟩
    clear hK K
    try simp only [Act.put, List.getElem_toArray, List.getElem_cons_succ, List.getElem_cons_zero, List.setIfInBounds_toArray, List.set_cons_zero, List.set_cons_succ]
    refine wpAnyH_take (i := 37) (v := ?_) rfl (by kernel_rfl) (by kernel_rfl) (by kernel_rfl) (fun _ _ _ h => h) (Or.inl ⟨by first | kernel_rfl | rfl, ?_⟩) (by assumption) ?_
    rotate_left
    · intro w hSw; (try dsimp only at hSw); (try go_split_ands); go_simp; first | done | with_reducible rfl
    try simp only [Act.put, List.getElem_toArray, List.getElem_cons_succ, List.getElem_cons_zero, List.setIfInBounds_toArray, List.set_cons_zero, List.set_cons_succ]
    refine wpAnyH_take (i := 38) (v := ?_) rfl (by kernel_rfl) (by kernel_rfl) (by kernel_rfl) (fun _ _ _ h => h) (Or.inl ⟨by first | kernel_rfl | rfl, ?_⟩) (by assumption) ?_
    rotate_left
    · intro w hSw; (try dsimp only at hSw); (try go_split_ands); go_simp; first | done | with_reducible rfl
    try simp only [Act.put, List.getElem_toArray, List.getElem_cons_succ, List.getElem_cons_zero, List.setIfInBounds_toArray, List.set_cons_zero, List.set_cons_succ]
    refine wpAnyH_take (i := 39) (v := ?_) rfl (by kernel_rfl) (by kernel_rfl) (by kernel_rfl) (fun _ _ _ h => h) (Or.inl ⟨by first | kernel_rfl | rfl, ?_⟩) (by assumption) ?_
    rotate_left
    · intro w hSw; (try dsimp only at hSw); (try go_split_ands); go_simp; first | done | with_reducible rfl
    try simp only [Act.put, List.getElem_toArray, List.getElem_cons_succ, List.getElem_cons_zero, List.setIfInBounds_toArray, List.set_cons_zero, List.set_cons_succ]
    refine wpAnyH_done (by kernel_rfl) ?_ _
    refine NoPanic.normal ?_
    have hg := C12.done
    clear C12
    go_wp2
    go_ret
    exact ⟨rfl, hg⟩
end Go.Proofs.Ck
