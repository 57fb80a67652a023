/- DirNobody: the walk. -/
import Derived.Test.YtpakfelekphbmaaDirKeeps
namespace Go.Proofs.Ck
open Go Go.RowKit

theorem stand_nothing (s : ByteArray) : standS (fun _ => 0) s = 0 := by
  rcases standS_cases (fun _ => 0) s with h | ⟨_, j, _, _, h, _⟩
  · exact h
  · omega
theorem roomE_cases (f : Nat → Nat) (s : ByteArray) : roomE f s = 0 ∨ roomE f s = 7 ∨ roomE f s = 8 ∨ roomE f s = 9 := by
  unfold roomE
  split
  · split
    · split <;> simp
    · simp
  · simp
set_option maxRecDepth 100000 in
set_option maxHeartbeats 8000000 in
theorem dirNobody {w : World} {D : Option Addr} {m : Nat} {l : List Dd} (nm : ByteArray) (off : Nat) (hoff : off < 18446744073709551616) (hD : Row (fun b => b < w.heap.size) w D l.length 3 (ddeeds l)) (hdl : l.length ≤ 9223372036854775807) (ho : ∀ d ∈ l, d.2.2 < 18446744073709551616) :
    Calls Try.prog 41 #[.slice D l.length m, .string nm, .int .u64 (off : Int)] w fun e w' => e = .returned (.bool true) ∧ Grow w w' := by
  by_cases hbig : 100 < nm.size
  · have t0 : decide ((100 : Int) < (nm.size : Int)) = true := decide_eq_true (by omega)
    go_enter Try.func41, Try.ntmps41
    go_wp2_with fail
    refine (awake13 w).mono ?_
    rintro e w1 ⟨rfl, hg⟩
    go_wp2
    go_ret
    exact ⟨rfl, hg⟩
  · have t0 : decide ((100 : Int) < (nm.size : Int)) = false := decide_eq_false (by omega)
    have e1 : IntKind.u64.wrap ((off : Int) % 2) = ((off % 2 : Nat) : Int) := by rw [IntKind.wrap_u64]; omega
    have e2 : (off : Int) % 2 = ((off % 2 : Nat) : Int) := by omega
    have e3 : (off : Int).tmod 2 = ((off % 2 : Nat) : Int) := by rw [Int.tmod_eq_emod_of_nonneg (by omega)]; omega
    have e4 : IntKind.u64.wrap ((off % 2 : Nat) : Int) = ((off % 2 : Nat) : Int) := by rw [IntKind.wrap_u64]; omega
    have hr2 : off % 2 < 2 := by omega
    generalize off % 2 = r at *
    have hadd : ¬ 9223372036854775807 < nm.size + 16 := by omega
    have hlok : okN (nm ++ (⟨#[48, 49, 50, 51, 52, 53, 54, 55, 56, 57, 97, 98, 99, 100, 101, 102]⟩ : ByteArray)) = false := by
      rw [← Bool.not_eq_true, okN_iff, ByteArray.size_append]
      intro hh
      have := hh.2
      rw [show (⟨#[48, 49, 50, 51, 52, 53, 54, 55, 56, 57, 97, 98, 99, 100, 101, 102]⟩ : ByteArray).size = 16 from rfl] at this
      omega
    go_enter Try.func41, Try.ntmps41
    go_wp2_with fail
    refine (awake13 w).mono ?_
    rintro e w1 ⟨rfl, hg⟩
    have hplay := played_S (w0 := w) (A := none) (kk := []) (n := 0) (m := m) (K0 := fun _ _ => True) hg Row.empty (by simp) (fun p hp => by cases hp) hD hdl ho stable_true trivial
    clear hD hdl ho hbig hg
    go_wp2_with fail
    refine (show Calls _ _ #[.slice none 0 0, _] _ _ from hplay).mono ?_
    rintro e w2 hP
    obtain ⟨base, p, A1, n1, c1, B1, m1, d1, rfl, L2⟩ := hP.law stable_true
    generalize (deedsS (fillS ⟨fmtW 600 4480, []⟩ (([] : List (Nat × Nat)).take 60)) (l.take 40)).load = f at L2
    clear hplay hP
    have L3 := (L2.alloc #[.slice A1 n1 c1, .slice B1 m1 d1] 67).drop1
    clear L2
    go_wp2_with fail
    generalize w2.alloc (Obj.cells #[.slice A1 n1 c1, .slice B1 m1 d1] 67) = w3 at *
    have D1 : ∀ {w1 : World} {lg : ByteArray}, okN lg = false → Law base (fun _ => False) w w1 (.pointer p) f [] (fun _ _ => True) →
        Calls Try.prog 136 #[.pointer p, .string lg, .int .u64 (off : Int)] w1 (fun e w' => e = .returned (.int .i64 8) ∧ Law base (fun _ => False) w w' (.pointer p) f [] fun _ _ => True) := fun {w1 lg} hk hL =>
      hL.dput lg off hoff (put_bad hk) (putF_bad (by rw [put_bad hk]; omega))
    generalize nm ++ (⟨#[48, 49, 50, 51, 52, 53, 54, 55, 56, 57, 97, 98, 99, 100, 101, 102]⟩ : ByteArray) = lg at *
    have bs : ∀ g, standS g lg = 0 := fun g => by unfold standS; rw [hlok]; rfl
    have bf : findB f lg = false := decide_eq_false fun hh => hh (bs f)
    refine (D1 hlok L3).mono ?_
    rintro e w4 ⟨rfl, L4⟩
    clear L3 hadd
    have D2 := L4.dfind lg rfl bf
    go_wp2_with fail
    refine D2.mono ?_
    rintro e w5 ⟨rfl, L5⟩
    clear D2 L4
    generalize findV f lg = fv at *
    have D2 := L5.ddrop lg (g := f) bf (by unfold dropF; rw [if_pos (bs f)])
    go_wp2_with fail
    refine D2.mono ?_
    rintro e w6 ⟨rfl, L6⟩
    clear D2 L5
    have hek : okN (⟨#[]⟩ : ByteArray) = false := by
      rw [← Bool.not_eq_true, okN_iff]
      exact fun hh => absurd hh.1 (by decide)
    have D2 := D1 hek L6
    clear D1 bs bf hlok hek
    go_wp2_with fail
    refine D2.mono ?_
    rintro e w7 ⟨rfl, L7⟩
    clear D2 L6
    have D2 := L7.read (find_call (v := .pointer none) (f := fun _ => 0) (.inl ⟨rfl, rfl⟩) nm)
    rw [show findB (fun _ => 0) nm = false from decide_eq_false fun hh => hh (stand_nothing nm)] at D2
    generalize findV (fun _ => 0) nm = fw at *
    go_wp2_with fail
    refine D2.mono ?_
    rintro e w8 ⟨rfl, L8⟩
    clear D2 L7
    have fr : putE f nm r = if roomE f nm = 0 then 1 else roomE f nm := by unfold putE; split <;> simp [   ]
    have gr : putF f nm r = f := putF_bad (by rw [fr]; split <;> omega)
    have hcase := roomE_cases f nm
    have nr : namedB f r = false := namedB_false fun j _ hh => by omega
    obtain ⟨R, hR⟩ : ∃ R, roomE f nm = R := ⟨_, rfl⟩
    rw [hR] at fr hcase
    have D2 := L8.droom nm hR
    have D3 := fun w1 (hL : Law base (fun _ => False) w w1 (.pointer p) f [] fun _ _ => True) => hL.dput nm r (by omega) fr gr
    have D4 := fun w1 (hL : Law base (fun _ => False) w w1 (.pointer p) f [] fun _ _ => True) => hL.dnamed r (by omega) nr
    clear hR fr gr nr hr2 hoff
    rcases hcase with rfl | rfl | rfl | rfl
    all_goals
      (go_wp2_with fail
       refine D2.mono ?_
       rintro e w9 ⟨rfl, L9⟩
       clear D2 L8
       go_wp2_with fail
       refine (D3 _ L9).mono ?_
       rintro e w10 ⟨rfl, L10⟩
       clear D3 L9
       go_wp2_with fail
       refine (D4 _ L10).mono ?_
       rintro e w11 ⟨rfl, L11⟩
       clear D4 L10
       have hg := L11.done
       clear L11
       go_wp2
       go_ret
       exact ⟨rfl, hg⟩)
end Go.Proofs.Ck
