/- IntentBack: the walk. -/
import Derived.Test.YtpakfelekphbmaaIntentReads
namespace Go.Proofs.Ck
open Go Go.RowKit

theorem arg_fresh {w0 w : World} {A : Option Addr} {l : List (Nat × Nat)} (hg : Grow w0 w) (hl : Puts (fun b => b < w0.heap.size) w0 A l) : ArgP A l w (fun b => w.heap.size ≤ b) :=
  (hl.grow hg).mono fun b hb _ => by omega
theorem Row.takeP {S : Nat → Prop} {w : World} {A : Option Addr} {l : List (Nat × Nat)} (h : Puts S w A l) (m : Nat) : Puts S w A (l.take m) := by
  refine ⟨by rw [puts_length], fun hp => ?_⟩
  have hp2 : 0 < (puts l).length := by
    rw [puts_length] at hp ⊢
    rw [List.length_take] at hp
    omega
  obtain ⟨b, off, h1, h2, h3⟩ := h.at_ hp2
  refine ⟨b, off, h1, h2, fun j u hj => h3 j u ?_⟩
  have e : puts l = puts (l.take m) ++ puts (l.drop m) := by rw [← puts_append, List.take_append_drop]
  rw [e, List.getElem?_append_left (List.getElem?_eq_some_iff.1 hj).1]
  exact hj

theorem same_selfN {S S' : Nat → Prop} {w : World} {A A' : Option Addr} {c c' n : Nat} {l : List (Nat × Nat)} (h0 : Puts S w A l) (h1 : Puts S' w A' l) (e : l.length = n) (hn : n ≤ 17592186044416) :
    Calls Try.prog 91 #[.slice A n c, .slice A' n c'] w fun e w' => e = .returned (.bool true) ∧ Grow w w' := by
  subst e
  exact same_self h0 h1 hn

set_option maxRecDepth 100000 in
set_option maxHeartbeats 4000000 in
theorem intentBack {w : World} {A : Option Addr} {n : Nat} {l : List (Nat × Nat)} (c k : Nat) (hc : c < 256) (hk : k < 256) (hl : Puts (fun b => b < w.heap.size) w A l) (hle : l.length ≤ n) (hm : l.length ≤ 9223372036854775807) (hA : A = none → n = 0)
    (hx : ∀ p ∈ l, p.1 < 18446744073709551616 ∧ p.2 < 18446744073709551616) :
    Calls Try.prog 20 #[.int .u8 (c : Int), .slice A l.length n, .int .u8 (k : Int)] w fun e w' => e = .returned (.bool true) ∧ Grow w w' := by
  by_cases h24 : l.length ≤ 24
  · have t0 : decide ((24 : Int) < l.length) = false := decide_eq_false (by omega)
    have ec : IntKind.i64.wrap ((c : Int) % 8) = ((c % 8 : Nat) : Int) := by rw [IntKind.wrap_i64]; omega
    have hc8 : c % 8 < 8 := by omega
    obtain ⟨o, ho⟩ : ∃ o, 64 + 416 * (c % 8) + 16 = o := ⟨_, rfl⟩
    have hos : inSeg o := by unfold inSeg; omega
    generalize c % 8 = C at *
    obtain ⟨m, hmd⟩ : ∃ m, k % (l.length + 1) = m := ⟨_, rfl⟩
    have hml : m ≤ l.length := by have := Nat.mod_lt k (show 0 < l.length + 1 by omega); omega
    have em : ((k : Int)) % ((l.length : Int) + 1) = (m : Int) := by
      rw [← hmd]
      have := Int.natCast_emod k (l.length + 1)
      rw [Int.natCast_add] at this
      exact this.symm
    have em2 : ((k : Int)).tmod ((l.length : Int) + 1) = (m : Int) := by rw [Int.tmod_eq_emod_of_nonneg (by omega)]; exact em
    have ek : IntKind.i64.wrap (k : Int) = (k : Int) := by rw [IntKind.wrap_i64]; omega
    have hbx := logN_lt hc8 hx (show l.length ≤ 24 from h24)
    clear hmd
    have HO := Lib.hid ho
    clear ho
    go_enter Try.func20, Try.ntmps20
    go_wp2_with fail
    refine (awake17 w).mono ?_
    rintro e w1 ⟨rfl, hg⟩
    go_wp2_with fail
    refine (formed_K (l := []) (A := none) (K0 := ArgP A l) hg Row.empty stable_arg (arg_fresh hg hl) fun hl1 => formed92 (c := 0) 4480 (by unfold fits; omega) hl1 (by simp) (fun p hp => by cases hp)).mono ?_
    rintro e w2 ⟨base, p, A', n1, c', B', n2, d', rfl, L2⟩
    have f0 : fillF 4480 ([].take 60) o = 0 := by rw [← HO.out]; exact fmt_client 4480 C 16 (by omega) hc8 (by omega)
    clear hl hx hg
    generalize fillF 4480 ([].take 60) = f at L2 f0
    obtain ⟨g, hgd⟩ : ∃ g, putF f (logN C l l.length) = g := ⟨_, rfl⟩
    have hga := logF_at f l hc8 l.length h24
    rw [hgd] at hga
    have g0 : g o = 0 := by rw [hga.2 o (by have := HO.out; omega), f0]
    have HGA := Lib.hid hga
    have HGD := Lib.hid hgd
    have HG0 := Lib.hid g0
    clear hga hgd g0 f0
    have L3 := L2.alloc #[.slice A' n1 c', .slice B' n2 d'] 67
    clear L2
    go_wp2_with fail
    generalize w2.alloc (Obj.cells #[.slice A' n1 c', .slice B' n2 d'] 67) = w3 at L3 ⊢
    obtain ⟨X, hX⟩ := L3.know
    go_wp2_with fail
    refine (L3.words hc8 hX h24).mono ?_
    rintro e w4 ⟨Bw, mw, rfl, L4⟩
    clear L3
    clear hX
    go_wp2_with fail
    refine (L4.putL (fun w X h => h.1) (by rw [logN_length]; omega) hbx HGD.out).mono ?_
    rintro e w5 ⟨rfl, L5⟩
    clear L4
    go_wp2_with fail
    refine (L5.readL (l := []) hc8 HO.out HG0.out (by omega) rfl).mono ?_
    rintro e w6 ⟨Ba, ma, rfl, L6⟩
    clear L5
    go_wp2_with fail
    refine (L6.commitL (n := m) hc8 (by omega) HO.out).mono ?_
    rintro e w7 ⟨rfl, L7⟩
    clear L6
    have L8 := L7.alloc #[.int .u64 (o : Int), .int .u64 (m : Int)] 73
    clear L7
    go_wp2_with fail
    generalize w7.alloc (Obj.cells #[.int .u64 (o : Int), .int .u64 (m : Int)] 73) = w8 at L8 ⊢
    have b0 := L8.cell (List.mem_cons_self ..) 0
    have b1 := L8.cell (List.mem_cons_self ..) 1
    go_wp2_with fail
    refine (L8.store o m hos (by omega)).mono ?_
    rintro e w9 ⟨rfl, L9⟩
    clear L8
    clear b0 b1
    go_wp2_with fail
    refine (L9.readL (l := l.take m) hc8 HO.out (upd_same _ _ _) (by omega) (read_back hml (fun i hi => by rw [upd_ne (by have := HO.out; omega), upd_ne (by have := HO.out; omega)]; exact HGA.out.1 i (by omega)))).mono ?_
    rintro e w10 ⟨Bb, mb, rfl, L10⟩
    clear L9
    go_wp2_with fail
    refine (L10.clearL hc8 HO.out).mono ?_
    rintro e w11 ⟨rfl, L11⟩
    clear L10
    have L12 := L11.alloc #[.int .u64 (o : Int), .int .u64 0] 73
    clear L11
    go_wp2_with fail
    generalize w11.alloc (Obj.cells #[.int .u64 (o : Int), .int .u64 0] 73) = w12 at L12 ⊢
    have b0 := L12.cell (List.mem_cons_self ..) 0
    have b1 := L12.cell (List.mem_cons_self ..) 1
    go_wp2_with fail
    refine (L12.store o 0 hos (by omega)).mono ?_
    rintro e w13 ⟨rfl, L13⟩
    clear L12
    clear b0 b1
    have hlm : (l.take m).length = m := by rw [List.length_take]; omega
    have HLM := Lib.hid hlm
    clear hlm
    cases A with
    | none =>
      obtain rfl := hA rfl
      have hml0 : m = 0 := by omega
      subst hml0
      have hl0 : l = [] := List.eq_nil_of_length_eq_zero (by omega)
      subst hl0
      obtain ⟨X, hX⟩ := L13.know
      have hs := L13.read (same_selfN (c := mb) (c' := 0) (n := 0) hX.1 (A' := none) (S' := fun _ => True) Row.empty rfl (by omega))
      clear hX HGA HGD
      go_wp2_with fail
      refine (show Calls _ _ #[.slice _ 0 _, .slice none 0 0] _ _ from hs).mono ?_
      rintro e w14 ⟨rfl, L14⟩
      clear hs L13
      go_wp2_with fail
      refine (L14.readL (l := []) (n := 0) hc8 HO.out (upd_same _ _ _) (by omega) rfl).mono ?_
      rintro e w15 ⟨Bz, mz, rfl, L15⟩
      clear L14
      have hg := L15.done
      clear L15
      go_wp2
      go_ret
      exact ⟨rfl, hg⟩
    | some ad =>
      obtain ⟨X, hX⟩ := L13.know
      have hs := L13.read (same_selfN (c := mb) (c' := n) hX.1 (Row.takeP hX.2.2.2 m) HLM.out (by omega))
      clear hX HGA HGD
      go_wp2_with fail
      refine hs.mono ?_
      rintro e w14 ⟨rfl, L14⟩
      clear hs L13
      go_wp2_with fail
      refine (L14.readL (l := []) (n := 0) hc8 HO.out (upd_same _ _ _) (by omega) rfl).mono ?_
      rintro e w15 ⟨Bz, mz, rfl, L15⟩
      clear L14
      have hg := L15.done
      clear L15
      go_wp2
      go_ret
      exact ⟨rfl, hg⟩
  · have t0 : decide ((24 : Int) < l.length) = true := decide_eq_true (by omega)
    go_enter Try.func20, Try.ntmps20
    go_wp2_with fail
    refine (awake17 w).mono ?_
    rintro e w1 ⟨rfl, hg⟩
    go_wp2
    go_ret
    exact ⟨rfl, hg⟩
end Go.Proofs.Ck
