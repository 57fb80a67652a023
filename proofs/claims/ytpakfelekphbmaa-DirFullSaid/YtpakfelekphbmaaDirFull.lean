/- DirFull: the walk. -/
import Derived.Test.YtpakfelekphbmaaDirKeeps
namespace Go.Proofs.Ck
open Go Go.RowKit

/-- Two bytes as a name. -/
theorem conv2 (w : World) (a b : Nat) : (convert 30 9 (.slice (some ⟨w.heap.size, 0, none⟩) 2 2)).run Try.prog (w.alloc (.cells #[.int .u8 (a : Int), .int .u8 (b : Int)] 5)) = .ok (.string (nm2 a b)) (w.alloc (.cells #[.int .u8 (a : Int), .int .u8 (b : Int)] 5)) := by
  have hn := World.alloc_heap_new w (.cells #[.int .u8 (a : Int), .int .u8 (b : Int)] 5)
  exact run_string (show Byts (fun _ => True) (w.alloc (.cells #[.int .u8 (a : Int), .int .u8 (b : Int)] 5)) (some ⟨w.heap.size, 0, none⟩) [a, b] from Row.of_block hn trivial (by simp [u8s]) (fun j u hj => by simpa [u8s] using hj)) rfl

set_option maxRecDepth 100000 in
set_option maxHeartbeats 8000000 in
theorem dirFull (w : World) (n t : Nat) (_hn : n < 256) (ht : t < 256) :
    Calls Try.prog 39 #[.int .u8 (n : Int), .int .u8 (t : Int)] w fun e w' => e = .returned (.bool true) ∧ Grow w w' := by
  obtain ⟨a, ha⟩ : ∃ a, t % 16 = a := ⟨_, rfl⟩
  have ha16 : a < 16 := by omega
  have r1 : IntKind.u8.wrap ((t : Int) % 16) = (a : Int) := by rw [IntKind.wrap_u8]; omega
  have r2 : (t : Int) % 16 = (a : Int) := by omega
  have r3 : (t : Int).tmod 16 = (a : Int) := by rw [Int.tmod_eq_emod_of_nonneg (by omega)]; omega
  have r4 : IntKind.u8.wrap (a : Int) = (a : Int) := by rw [IntKind.wrap_u8]; omega
  clear ha ht
  go_enter Try.func39, Try.ntmps39
  go_wp2_with fail
  refine (awake13 w).mono ?_
  rintro e w1 ⟨rfl, hg⟩
  go_wp2_with fail
  refine (formed_K (w0 := w) (A := none) (l := []) (K0 := fun _ _ => True) hg Row.empty stable_true trivial fun hl1 => formed138 (c := 0) 4480 (by unfold fits; omega) hl1 (by simp) (fun p hp => by cases hp)).mono ?_
  rintro e w2 ⟨base, p, A', n1, c', B', n2, d', rfl, L2⟩
  have h0 : ∀ j, j < 16 → fillF 4480 ([].take 60) (sl j + 16) = 0 := fmt_slots 4480 (by omega)
  generalize fillF 4480 ([].take 60) = f0 at L2 h0
  have hfil := fun i (hi : i ≤ 16) => filled h0 n i hi
  have HF := Lib.hid hfil
  clear h0 hfil hg
  have L3 := (L2.alloc #[.slice A' n1 c', .slice B' n2 d'] 67).drop1
  clear L2
  go_wp2_with fail
  generalize w2.alloc (Obj.cells #[.slice A' n1 c', .slice B' n2 d'] 67) = w3 at *
  go_loopw [8] (fun i wr => ∃ k : Nat, k ≤ 16 ∧ i = .int .i64 (k : Int) ∧ Law base (fun _ => False) w wr (.pointer p) (fillN n k f0) [] fun _ _ => True) (fun i _ => 16 - (intOf i).toNat)
  case atStart => exact ⟨0, Nat.zero_le _, rfl, L3⟩
  case round =>
    clear L3
    obtain ⟨k, hk, rfl, L3⟩ := hrel
    by_cases hlt : k < 16
    · have g0 : decide ((k : Int) < 16) = true := decide_eq_true (by omega)
      have b1 : IntKind.u8.wrap (k : Int) = (k : Int) := by rw [IntKind.wrap_u8]; omega
      have b2 : IntKind.i64.wrap (100 + (k : Int)) = ((100 + k : Nat) : Int) := by rw [IntKind.wrap_i64]; omega
      have b3 : IntKind.u64.wrap ((100 + k : Nat) : Int) = ((100 + k : Nat) : Int) := by rw [IntKind.wrap_u64]; omega
      have hcv := conv2 wr n k
      have hpe := ((HF.out k hk).next hlt).1
      have D1 := ((L3.alloc #[.int .u8 (n : Int), .int .u8 (k : Int)] 5).drop1).dput (nm2 n k) (100 + k) (by omega) hpe (g := fillN n (k + 1) f0) rfl
      clear hpe L3 hk
      generalize 100 + k = y at *
      go_wp2_with fail
      refine D1.mono ?_
      rintro e w4 ⟨rfl, L4⟩
      clear D1 hcv b1 b2 b3
      go_wp2
      go_roundw
      case rel => exact ⟨k + 1, by omega, by go_num, L4⟩
      case measure => simp [intOf]; omega
    · obtain rfl : k = 16 := by omega
      have g0 : decide (((16 : Nat) : Int) < 16) = false := decide_eq_false (by omega)
      obtain ⟨u1, u2, u3, u4, u5, u6⟩ := full (HF.out 16 (Nat.le_refl _)) ha16 (m := (⟨#[111, 110, 101, 32, 109, 111, 114, 101]⟩ : ByteArray)) (by rw [okN_iff]; decide) (by decide)
      generalize fillN n 16 f0 = f1 at *
      have D1 := L3.dput (⟨#[111, 110, 101, 32, 109, 111, 114, 101]⟩ : ByteArray) 5 (by omega) u1 (putF_bad (by omega))
      clear u1 HF hk hlt
      go_wp2_with fail
      refine (show Calls _ _ #[_, _, .int .u64 5] _ _ from D1).mono ?_
      rintro e w4 ⟨rfl, L4⟩
      clear D1 L3
      have hcv := conv2 w4 n a
      have D1 := ((L4.alloc #[.int .u8 (n : Int), .int .u8 (a : Int)] 5).drop1).ddrop (nm2 n a) (b := true) (decide_eq_true u2) rfl
      clear u2 L4
      generalize dropF f1 (nm2 n a) = f2 at *
      go_wp2_with fail
      refine D1.mono ?_
      rintro e w5 ⟨rfl, L5⟩
      clear D1 hcv
      have D1 := L5.dput (⟨#[111, 110, 101, 32, 109, 111, 114, 101]⟩ : ByteArray) 5 (by omega) u3 rfl
      clear u3
      generalize putF f2 (⟨#[111, 110, 101, 32, 109, 111, 114, 101]⟩ : ByteArray) 5 = f3 at *
      go_wp2_with fail
      refine (show Calls _ _ #[_, _, .int .u64 5] _ _ from D1).mono ?_
      rintro e w6 ⟨rfl, L6⟩
      clear D1 L5
      have HU := Lib.hid (⟨u4, u5⟩ : _ ∧ _)
      have HU6 := Lib.hid u6
      clear u4 u5 u6
      go_wp2
      go_loopw [12] (fun i wr => ∃ k : Nat, k ≤ 16 ∧ i = .int .i64 (k : Int) ∧ Law base (fun _ => False) w wr (.pointer p) f3 [] fun _ _ => True) (fun i _ => 16 - (intOf i).toNat)
      case atStart => exact ⟨0, Nat.zero_le _, rfl, L6⟩
      case round =>
        clear L6
        obtain ⟨k, hk, rfl, L6⟩ := hrel
        by_cases hlt : k < 16
        · have g0 : decide ((k : Int) < 16) = true := decide_eq_true (by omega)
          have b1 : IntKind.u8.wrap (k : Int) = (k : Int) := by rw [IntKind.wrap_u8]; omega
          have b2 : IntKind.i64.wrap (100 + (k : Int)) = ((100 + k : Nat) : Int) := by rw [IntKind.wrap_i64]; omega
          have b3 : IntKind.u64.wrap ((100 + k : Nat) : Int) = ((100 + k : Nat) : Int) := by rw [IntKind.wrap_u64]; omega
          have hcv := conv2 wr n k
          have L7 := (L6.alloc #[.int .u8 (n : Int), .int .u8 (k : Int)] 5).drop1
          have hk1 : k + 1 ≤ 16 := by omega
          by_cases hka : k = a
          · subst hka
            have D1 := L7.dfind (nm2 n k) (x := 0) (b := false) (by unfold findV; rw [if_pos HU.out.2]) (decide_eq_false fun hh => hh HU.out.2)
            have kk : ((k : Int) != k) = false := by simp
            clear L6 L7 hk
            go_wp2_with fail
            refine D1.mono ?_
            rintro e w7 ⟨rfl, L8⟩
            clear D1 hcv
            go_wp2
            go_roundw
            case rel => exact ⟨k + 1, hk1, by go_num, L8⟩
            case measure => simp [intOf]; omega
          · obtain ⟨v1, v2⟩ := HU.out.1 k hlt hka
            have D1 := L7.dfind (nm2 n k) (b := true) v2 (decide_eq_true v1)
            have kk : ((k : Int) != a) = true := by rw [bne_iff_ne]; omega
            clear L6 L7 hk v1 v2 hka
            generalize 100 + k = y at *
            have yy : ((y : Int) != y) = false := by simp
            go_wp2_with fail
            refine D1.mono ?_
            rintro e w7 ⟨rfl, L8⟩
            clear D1 hcv
            go_wp2
            go_roundw
            case rel => exact ⟨k + 1, hk1, by go_num, L8⟩
            case measure => simp [intOf]; omega
        · obtain rfl : k = 16 := by omega
          have g0 : decide (((16 : Nat) : Int) < 16) = false := decide_eq_false (by omega)
          have D1 := L6.dall (l := entsN f3 16) rfl HU6.out
          clear HU HU6 hk hlt
          go_wp2_with fail
          refine D1.mono ?_
          rintro e w7 ⟨R, rc, rfl, L7⟩
          clear D1 L6
          have hg := L7.done
          clear L7
          go_wp2
          go_ret
          exact ⟨rfl, hg⟩
end Go.Proofs.Ck
