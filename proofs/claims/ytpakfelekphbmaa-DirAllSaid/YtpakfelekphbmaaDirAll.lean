/- DirAll: the walk. -/
import Derived.Test.YtpakfelekphbmaaDirKeeps
namespace Go.Proofs.Ck
open Go Go.RowKit

set_option maxRecDepth 100000 in
set_option maxHeartbeats 8000000 in
theorem dirAll {w : World} {D : Option Addr} {m : Nat} {l : List Dd} (hD : Row (fun b => b < w.heap.size) w D l.length 3 (ddeeds l)) (hdl : l.length ≤ 9223372036854775807) (ho : ∀ d ∈ l, d.2.2 < 18446744073709551616) :
    Calls Try.prog 40 #[.slice D l.length m] w fun e w' => e = .returned (.bool true) ∧ Grow w w' := by
  go_enter Try.func40, Try.ntmps40
  go_wp2_with fail
  refine (awake13 w).mono ?_
  rintro e w1 ⟨rfl, hg⟩
  have hplay := played_S (w0 := w) (A := none) (kk := []) (n := 0) (m := m) (K0 := fun _ _ => True) hg Row.empty (by simp) (fun p hp => by cases hp) hD hdl ho stable_true trivial
  clear hD hdl ho hg
  go_wp2_with fail
  refine (show Calls _ _ #[.slice none 0 0, _] _ _ from hplay).mono ?_
  rintro e w2 hP
  obtain ⟨base, p, A1, n1, c1, B1, m1, d1, rfl, L2⟩ := hP.law stable_true
  have hgood := good_played (l.take 40)
  generalize (deedsS (fillS ⟨fmtW 600 4480, []⟩ (([] : List (Nat × Nat)).take 60)) (l.take 40)).load = f at L2 hgood
  clear hplay hP
  have L3 := (L2.alloc #[.slice A1 n1 c1, .slice B1 m1 d1] 67).drop1
  clear L2
  have hL16 := ents_len f 16
  have hmem := fun x (hx : x ∈ entsN f 16) => hgood.ents hx
  have hfind := fun x (hx : x ∈ entsN f 16) => hgood.find (hmem x hx).1 (hmem x hx).2
  have hnamed := fun x (hx : x ∈ entsN f 16) => named_has (hmem x hx).2
  have hapart := hgood.ents_apart
  have D1 := L3.dall (l := entsN f 16) rfl rfl
  obtain ⟨L, hL⟩ : ∃ L, entsN f 16 = L := ⟨_, rfl⟩
  rw [hL] at hL16 hmem hfind hnamed hapart D1
  clear hL hmem hgood
  go_wp2_with fail
  generalize w2.alloc (Obj.cells #[.slice A1 n1 c1, .slice B1 m1 d1] 67) = w3 at *
  refine D1.mono ?_
  rintro e w4 ⟨R, rc, rfl, L4⟩
  clear D1 L3
  have hlt64 := L4.lt
  go_wp2_with fail
  go_loopw [8] (fun i wr => ∃ k : Nat, k ≤ L.length ∧ i = .int .i64 (k : Int) ∧ Law base (fun _ => False) w wr (.pointer p) f [] (fun w X => Row (fun b => ¬ X b) w R L.length 2 (ents L) ∧ True)) (fun i _ => L.length - (intOf i).toNat)
  case atStart => exact ⟨0, Nat.zero_le _, rfl, L4⟩
  case round =>
    clear L4
    obtain ⟨k, hk, rfl, L4⟩ := hrel
    by_cases hlt : k < L.length
    · have g0 : decide ((k : Int) < L.length) = true := decide_eq_true (by omega)
      obtain ⟨d, hd⟩ : ∃ d, L[k]? = some d := ⟨_, List.getElem?_eq_getElem hlt⟩
      have hm := List.mem_of_getElem? hd
      obtain ⟨f1, f2⟩ := hfind d hm
      have f3 := hnamed d hm
      have hfb : findB f d.1 = true := decide_eq_true f1
      obtain ⟨s, q⟩ := d
      simp only at f2 f3 hfb
      have hq64 : q < 18446744073709551616 := by
        rw [← f2]
        unfold findV
        split
        · omega
        · exact hlt64 _
      have cell : ∀ {w' : World} {j : Nat} {t : ByteArray} {o : Nat}, L[j]? = some (t, o) → Law base (fun _ => False) w w' (.pointer p) f [] (fun w X => Row (fun b => ¬ X b) w R L.length 2 (ents L) ∧ True) →
          ∃ b off, R = some ⟨b, off, none⟩ ∧ w'.cell? ⟨b, off + j * 2, none⟩ = some (.string t) ∧ w'.cell? ⟨b, off + j * 2 + 1, none⟩ = some (.int .u64 (o : Int)) := fun {w' j t o} hj hL => by
        obtain ⟨X, hX⟩ := hL.know
        have hjl := (List.getElem?_eq_some_iff.1 hj).1
        obtain ⟨b, off, hb, -, hc⟩ := hX.1.pos (by omega) (by omega)
        obtain ⟨e1, e2⟩ := ents_get hj
        exact ⟨b, off, hb, hc _ _ e1, by have := hc _ _ e2; rwa [← Nat.add_assoc] at this⟩
      obtain ⟨b, o, hR, x0, x1⟩ := cell hd L4
      subst hR
      have D1 := L4.dfind s f2 hfb
      have gi0 : (0 : Int) ≤ k := by omega
      have gi1 : (k : Int) < L.length := by omega
      clear f1 f2 hfb x1
      go_wp2_with fail
      refine D1.mono ?_
      rintro e w5 ⟨rfl, L5⟩
      clear D1 L4 x0
      obtain ⟨b', o', hR', x0, x1⟩ := cell hd L5
      cases hR'
      have D1 := L5.dnamed q hq64 f3
      have t2 : ((q : Int) != q) = false := by simp
      clear f3
      go_wp2_with fail
      refine D1.mono ?_
      rintro e w6 ⟨rfl, L6⟩
      clear D1 L5 x0 x1 t2
      have hne : ∀ j t o2, j < k → L[j]? = some (t, o2) → (t.toList == s.toList) = false := fun j t o2 hj hjd => by
        rw [bs_beq]
        refine decide_eq_false fun e => ?_
        have := List.pairwise_iff_getElem.1 hapart j k (by omega) hlt hj
        rw [List.getElem?_eq_getElem (by omega), Option.some.injEq] at hjd
        rw [List.getElem?_eq_getElem hlt, Option.some.injEq] at hd
        rw [hjd, hd] at this
        exact this e
      have hkk : k ≤ L.length := by omega
      go_wp2
      go_loopw [11] (fun i wr => ∃ j : Nat, j ≤ k ∧ i = .int .i64 (j : Int) ∧ Law base (fun _ => False) w wr (.pointer p) f [] (fun w X => Row (fun b => ¬ X b) w (some ⟨b, o, none⟩) L.length 2 (ents L) ∧ True)) (fun i _ => k - (intOf i).toNat)
      case atStart => exact ⟨0, Nat.zero_le _, rfl, L6⟩
      case round =>
        clear L6
        obtain ⟨j, hj, rfl, L6⟩ := hrel
        by_cases hjk : j < k
        · have g1 : decide ((j : Int) < k) = true := decide_eq_true (by omega)
          obtain ⟨dj, hdj⟩ : ∃ d, L[j]? = some d := ⟨_, List.getElem?_eq_getElem (by omega)⟩
          obtain ⟨t, o2⟩ := dj
          have ts := hne j t o2 hjk hdj
          obtain ⟨b1, o1, hb1, x0, -⟩ := cell hdj L6
          cases hb1
          obtain ⟨b1, o1, hb1, x1, -⟩ := cell hd L6
          cases hb1
          have gj0 : (0 : Int) ≤ j := by omega
          have gj1 : (j : Int) < L.length := by omega
          have hj1 : j + 1 ≤ k := by omega
          have L6d := L6.drew
          clear hj hdj
          go_wp2
          refine region_plain (fun w' => w'.cell? ⟨b, o + j * 2, none⟩ = some (.string t) ∧ w'.cell? ⟨b, o + k * 2, none⟩ = some (.string s)) (by kernel_rfl) ⟨x0, x1⟩ (fun hHeld => ?_)
          refine wpAnyH_take (i := 0) (v := ?_) rfl (by kernel_rfl) (by kernel_rfl) (by kernel_rfl) (fun _ _ _ h => h) (Or.inl ⟨by first | kernel_rfl | rfl, ?_⟩) (by assumption) ?_
          rotate_left
          · intro w hSw; (try dsimp only at hSw); (try go_split_ands); go_simp; first | done | with_reducible rfl
          try simp only [Act.put, List.getElem_toArray, List.getElem_cons_zero, List.setIfInBounds_toArray, List.set_cons_zero, List.set_cons_succ]
          refine wpAnyH_take (i := 1) (v := ?_) rfl (by kernel_rfl) (by kernel_rfl) (by kernel_rfl) (fun _ _ _ h => h) (Or.inl ⟨by first | kernel_rfl | rfl, ?_⟩) (by assumption) ?_
          rotate_left
          · intro w hSw; (try dsimp only at hSw); (try go_split_ands); go_simp; first | done | with_reducible rfl
          try simp only [Act.put, List.getElem_toArray, List.getElem_cons_succ, List.getElem_cons_zero, List.setIfInBounds_toArray, List.set_cons_zero, List.set_cons_succ]
          refine wpAnyH_take (i := 2) (v := ?_) rfl (by kernel_rfl) (by kernel_rfl) (by kernel_rfl) (fun _ _ _ h => h) (Or.inl ⟨by first | kernel_rfl | rfl, ?_⟩) (by assumption) ?_
          rotate_left
          · intro w hSw; (try dsimp only at hSw); (try go_split_ands); go_simp; first | done | with_reducible rfl
          try simp only [Act.put, List.getElem_toArray, List.getElem_cons_succ, List.getElem_cons_zero, List.setIfInBounds_toArray, List.set_cons_zero, List.set_cons_succ]
          refine wpAnyH_take (i := 3) (v := ?_) rfl (by kernel_rfl) (by kernel_rfl) (by kernel_rfl) (fun _ _ _ h => h) (Or.inl ⟨by first | kernel_rfl | rfl, ?_⟩) (by assumption) ?_
          rotate_left
          · intro w hSw; (try dsimp only at hSw); (try go_split_ands); go_simp; first | done | with_reducible rfl
          try simp only [Act.put, List.getElem_toArray, List.getElem_cons_succ, List.getElem_cons_zero, List.setIfInBounds_toArray, List.set_cons_zero, List.set_cons_succ]
          refine wpAnyH_take (i := 4) (v := ?_) rfl (by kernel_rfl) (by kernel_rfl) (by kernel_rfl) (fun _ _ _ h => h) (Or.inl ⟨by first | kernel_rfl | rfl, ?_⟩) (by assumption) ?_
          rotate_left
          · intro w hSw; (try dsimp only at hSw); (try go_split_ands); go_simp; first | done | with_reducible rfl
          try simp only [Act.put, List.getElem_toArray, List.getElem_cons_succ, List.getElem_cons_zero, List.setIfInBounds_toArray, List.set_cons_zero, List.set_cons_succ]
          refine wpAnyH_take (i := 5) (v := ?_) rfl (by kernel_rfl) (by kernel_rfl) (by kernel_rfl) (fun _ _ _ h => h) (Or.inl ⟨by first | kernel_rfl | rfl, ?_⟩) (by assumption) ?_
          rotate_left
          · intro w hSw; (try dsimp only at hSw); (try go_split_ands); go_simp; first | done | with_reducible rfl
          try simp only [Act.put, List.getElem_toArray, List.getElem_cons_succ, List.getElem_cons_zero, List.setIfInBounds_toArray, List.set_cons_zero, List.set_cons_succ]
          refine wpAnyH_take (i := 6) (v := ?_) rfl (by kernel_rfl) (by kernel_rfl) (by kernel_rfl) (fun _ _ _ h => h) (Or.inl ⟨by first | kernel_rfl | rfl, ?_⟩) (by assumption) ?_
          rotate_left
          · intro w hSw; (try dsimp only at hSw); (try go_split_ands); go_simp; first | done | with_reducible rfl
          try simp only [Act.put, List.getElem_toArray, List.getElem_cons_succ, List.getElem_cons_zero, List.setIfInBounds_toArray, List.set_cons_zero, List.set_cons_succ]
          refine wpAnyH_take (i := 7) (v := ?_) rfl (by kernel_rfl) (by kernel_rfl) (by kernel_rfl) (fun _ _ _ h => h) (Or.inl ⟨by first | kernel_rfl | rfl, ?_⟩) (by assumption) ?_
          rotate_left
          · intro w hSw; (try dsimp only at hSw); (try go_split_ands); go_simp; first | done | with_reducible rfl
          try simp only [Act.put, List.getElem_toArray, List.getElem_cons_succ, List.getElem_cons_zero, List.setIfInBounds_toArray, List.set_cons_zero, List.set_cons_succ]
          refine wpAnyH_take (i := 8) (v := ?_) rfl (by kernel_rfl) (by kernel_rfl) (by kernel_rfl) (fun _ _ _ h => h) (Or.inl ⟨by first | kernel_rfl | rfl, ?_⟩) (by assumption) ?_
          rotate_left
          · intro w hSw; (try dsimp only at hSw); (try go_split_ands); go_simp; first | done | with_reducible rfl
          try simp only [Act.put, List.getElem_toArray, List.getElem_cons_succ, List.getElem_cons_zero, List.setIfInBounds_toArray, List.set_cons_zero, List.set_cons_succ]
          refine wpAnyH_take (i := 9) (v := ?_) rfl (by kernel_rfl) (by kernel_rfl) (by kernel_rfl) (fun _ _ _ h => h) (Or.inl ⟨by first | kernel_rfl | rfl, ?_⟩) (by assumption) ?_
          rotate_left
          · intro w hSw; (try dsimp only at hSw); (try go_split_ands); go_simp; first | done | with_reducible rfl
          try simp only [Act.put, List.getElem_toArray, List.getElem_cons_succ, List.getElem_cons_zero, List.setIfInBounds_toArray, List.set_cons_zero, List.set_cons_succ]
          refine wpAnyH_take (i := 10) (v := ?_) rfl (by kernel_rfl) (by kernel_rfl) (by kernel_rfl) (fun _ _ _ h => h) (Or.inl ⟨by first | kernel_rfl | rfl, ?_⟩) (by assumption) ?_
          rotate_left
          · intro w hSw; (try dsimp only at hSw); (try go_split_ands); go_simp; first | done | with_reducible rfl
          try simp only [Act.put, List.getElem_toArray, List.getElem_cons_succ, List.getElem_cons_zero, List.setIfInBounds_toArray, List.set_cons_zero, List.set_cons_succ]
          refine wpAnyH_done (by kernel_rfl) ?_ _
          refine NoPanic.normal ?_
          go_wp2
          go_roundw
          case rel => exact ⟨j + 1, hj1, by go_num, L6d⟩
          case measure => simp [intOf]; omega
        · obtain rfl : j = k := by omega
          have g1 : decide ((j : Int) < j) = false := decide_eq_false (by omega)
          have hk1 : j + 1 ≤ L.length := by omega
          clear hne cell hd hm
          go_wp2
          go_roundw
          case rel => exact ⟨j + 1, hk1, by go_num, L6⟩
          case measure => simp [intOf]; omega
    · obtain rfl : k = L.length := by omega
      have g0 : decide ((L.length : Int) < L.length) = false := decide_eq_false (by omega)
      have t3 : decide ((L.length : Int) ≤ 16) = true := decide_eq_true (by omega)
      have hg := L4.done
      clear L4 hfind hnamed hapart
      go_wp2
      go_ret
      exact ⟨rfl, hg⟩
end Go.Proofs.Ck
