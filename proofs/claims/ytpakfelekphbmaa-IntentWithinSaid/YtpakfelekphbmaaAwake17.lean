/- The logs' laws: awake. -/
import Derived.Test.YtpakfelekphbmaaIntent7
import Derived.Test.YtpakfelekphbmaaFormed92
namespace Go.Proofs.Ck
open Go Go.RowKit

theorem Law.rowBox {base : Nat} {M0 : Nat → Prop} {w0 w : World} {v : Value} {f : Nat → Nat} {bx : List Bx} {K : World → (Nat → Prop) → Prop} (h : Law base M0 w0 w v f bx K) {q : Nat} {cs : Array Value} {t : TypeId} (hx : (q, cs, t) ∈ bx) {l : List (Nat × Nat)} (he : cs.toList = puts l) :
    Puts (fun _ => True) w (some ⟨q, 0, none⟩) l :=
  Row.of_block (h.box hx) trivial (by rw [puts_length]) (fun j u hj => by rw [← he] at hj; simpa using hj)

set_option maxRecDepth 100000 in
set_option maxHeartbeats 4000000 in
theorem awake17 (w : World) : Calls Try.prog 85 #[] w fun e w' => e = .returned (.bool true) ∧ Grow w w' := by
  go_enter Try.func85, Try.ntmps85
  go_wp2_with fail
  refine (formed_K (w0 := w) (A := none) (l := []) (K0 := fun _ _ => True) (Below.refl _ _) Row.empty stable_true trivial fun hl1 => formed92 (c := 0) 4000 (by unfold fits; omega) hl1 (by simp) (fun p hp => by cases hp)).mono ?_
  rintro e w2 ⟨base, p, A', n1, c', B', n2, d', rfl, L2⟩
  have f0 : fillF 4000 ([].take 60) 80 = 0 := fmt_client 4000 0 16 (by omega) (by omega) (by omega)
  have F0 := Lib.hid f0
  clear f0
  generalize fillF 4000 ([].take 60) = f at L2 F0
  have L3 := L2.alloc #[.slice A' n1 c', .slice B' n2 d'] 67
  have L4 := L3.alloc #[.int .u64 5, .int .u64 6, .int .u64 7, .int .u64 8] 73
  rw [show (w2.alloc (.cells #[.slice A' n1 c', .slice B' n2 d'] 67)).heap.size = w2.heap.size + 1 from by simp] at L4
  clear L2 L3
  go_wp2_with fail
  generalize (w2.alloc (.cells #[.slice A' n1 c', .slice B' n2 d'] 67)).alloc (.cells #[.int .u64 5, .int .u64 6, .int .u64 7, .int .u64 8] 73) = w4 at L4 ⊢
  have hw := L4.words (c := 0) (l := [(5, 6), (7, 8)]) (n := 2) (by omega) (L4.rowBox (List.mem_cons_self ..) rfl) (by simp)
  rw [show logN 0 [(5, 6), (7, 8)] [(5, 6), (7, 8)].length = [(96, 5), (104, 6), (112, 7), (120, 8)] from rfl] at hw
  refine (show Calls _ _ #[.int .i64 0, .slice _ 2 2] _ _ from hw).mono ?_
  rintro e w5 ⟨Bw, mw, rfl, L5⟩
  clear hw L4
  obtain ⟨b, o, rfl, -⟩ : ∃ b o, Bw = some ⟨b, o, none⟩ ∧ True := by
    obtain ⟨X, hX⟩ := L5.know
    obtain ⟨b, o, h, -⟩ := hX.1.pos (by simp) (by omega)
    exact ⟨b, o, h, trivial⟩
  rw [show [(96, 5), (104, 6), (112, 7), (120, 8)].length = 4 from rfl]
  obtain ⟨g, hg⟩ : ∃ g, putF f [(96, 5), (104, 6), (112, 7), (120, 8)] = g := ⟨_, rfl⟩
  have G : g 80 = 0 ∧ g 96 = 5 ∧ g 104 = 6 ∧ g 112 = 7 ∧ g 120 = 8 := by
    rw [← hg]
    show updS (updS (updS (updS f 96 5) 104 6) 112 7) 120 8 80 = 0 ∧ _
    rw [updS_in (by decide), updS_in (by decide), updS_in (by decide), updS_in (by decide)]
    exact ⟨F0.out, rfl, rfl, rfl, rfl⟩
  have HG := Lib.hid G
  have hp := L5.putL (c := mw) (l := [(96, 5), (104, 6), (112, 7), (120, 8)]) (fun w X h => h.1) (by simp) (by simp) hg
  clear G hg
  go_wp2_with fail
  refine (show Calls _ _ #[_, .slice _ 4 _] _ _ from hp).mono ?_
  rintro e w6 ⟨rfl, L6⟩
  clear hp L5
  have hr := L6.readL (c := 0) (o := 80) (n := 0) (l := []) (by omega) rfl HG.out.1 (by omega) rfl
  go_wp2_with fail
  refine (show Calls _ _ #[_, .int .i64 0] _ _ from hr).mono ?_
  rintro e w7 ⟨Ba, ma, rfl, L7⟩
  rw [show ([] : List (Nat × Nat)).length = 0 from rfl]
  clear hr L6
  have hcm := L7.commitL (c := 0) (n := 2) (o := 80) (by omega) (by omega) rfl
  go_wp2_with fail
  refine (show Calls _ _ #[.int .i64 0, .int .i64 2] _ _ from hcm).mono ?_
  rintro e w8 ⟨rfl, L8⟩
  rw [show ((80 : Nat) : Int) = 80 from rfl, show ((2 : Nat) : Int) = 2 from rfl]
  clear hcm L7
  have L9 := L8.alloc #[.int .u64 80, .int .u64 2] 73
  clear L8
  go_wp2_with fail
  generalize w8.alloc (Obj.cells #[.int .u64 80, .int .u64 2] 73) = w9 at L9 ⊢
  have hs := L9.store 80 2 (by decide) (by omega)
  go_wp2_with fail
  refine (show Calls _ _ #[_, .int .u64 80, .int .u64 2] _ _ from hs).mono ?_
  rintro e w10 ⟨rfl, L10⟩
  clear hs L9
  have hr := L10.readL (c := 0) (o := 80) (n := 2) (l := [(5, 6), (7, 8)]) (by omega) rfl (upd_same _ _ _) (by omega) (by
    obtain ⟨h1, h2, h3, h4, h5⟩ := HG.out
    show [(upd g 80 2 96, upd g 80 2 104), (upd g 80 2 112, upd g 80 2 120)] = _
    rw [upd_ne (by omega), upd_ne (by omega), upd_ne (by omega), upd_ne (by omega), h2, h3, h4, h5])
  go_wp2_with fail
  refine (show Calls _ _ #[_, .int .i64 0] _ _ from hr).mono ?_
  rintro e w11 ⟨Bb, mb, rfl, L11⟩
  rw [show ([(5, 6), (7, 8)] : List (Nat × Nat)).length = 2 from rfl]
  clear hr L10
  have hcl := L11.clearL (c := 0) (o := 80) (by omega) rfl
  go_wp2_with fail
  refine (show Calls _ _ #[.int .i64 0] _ _ from hcl).mono ?_
  rintro e w12 ⟨rfl, L12⟩
  rw [show ((80 : Nat) : Int) = 80 from rfl]
  clear hcl L11
  have L13 := L12.alloc #[.int .u64 80, .int .u64 0] 73
  obtain ⟨X, hX⟩ := L12.know
  obtain ⟨b', o', e, -, hcell⟩ := hX.2.2.1.pos (by simp) (by omega)
  cases e
  have k0 := hcell 0 (.int .u64 96) rfl
  have k1 := hcell 1 (.int .u64 5) rfl
  rw [Nat.add_zero] at k0
  clear hcell hX
  obtain ⟨X, hX⟩ := L13.know
  obtain ⟨b', o', e, -, hcell⟩ := hX.2.2.1.pos (by simp) (by omega)
  cases e
  have k2 := hcell 0 (.int .u64 96) rfl
  have k3 := hcell 1 (.int .u64 5) rfl
  rw [Nat.add_zero] at k2
  have hsm := L13.read (same_call (c := mb) (c' := 2) (l := [(5, 6), (7, 8)]) (l' := [(5, 6), (7, 8)]) hX.1 (L13.rowBox (List.mem_cons_of_mem _ (List.mem_cons_of_mem _ (List.mem_cons_self ..))) rfl) (by simp))
  rw [decide_eq_true rfl] at hsm
  clear hcell hX L12 L13
  go_wp2_with fail
  refine (show Calls _ _ #[.slice _ 2 _, .slice _ 2 _] _ _ from hsm).mono ?_
  rintro e w14 ⟨rfl, L14⟩
  clear hsm k0 k1 k2 k3
  have k0 := L14.cell (List.mem_cons_self ..) 0
  have k1 := L14.cell (List.mem_cons_self ..) 1
  have hg := L14.done
  clear L14
  go_wp2
  go_ret
  exact ⟨rfl, hg⟩
end Go.Proofs.Ck
