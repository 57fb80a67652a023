/- A part of the proofs of this seat's laws. -/
import Derived.Test.YtpakfelekphbmaaCopy
namespace Go.Proofs.Ck
open Go Go.RowKit

/-- Bytes as a string. -/
def strOf (l : List Nat) : ByteArray := (l.map fun (x : Nat) => (x : Int)).foldl (fun r n => r.push (UInt8.ofNat n.toNat)) ByteArray.empty

theorem run_string {S : Nat → Prop} {w : World} {A : Option Addr} {c n : Nat} {l : List Nat} (h : Byts S w A l) (hn : l.length = n) :
    (convert 30 9 (.slice A n c)).run Try.prog w = .ok (.string (strOf l)) w := by
  subst hn
  rw [run_convert_bytes_string w 30 9 5 A l.length c Try.underlying30 Try.underlying5 Try.underlying9]
  cases A with
  | none =>
    have : l = [] := by
      rcases Nat.eq_zero_or_pos l.length with h0 | h0
      · exact List.eq_nil_of_length_eq_zero h0
      · obtain ⟨_, _, h', _⟩ := h.pos h0 (by omega); cases h'
    subst this
    rfl
  | some a =>
    refine run_bytesToString w a l.length c _ ?_
    have e : (List.map (Value.int .u8) (l.map fun (x : Nat) => (x : Int))) = u8s l := by simp [u8s]
    rw [e]
    have := run_loadCells_list (P := Try.prog) w a (u8s l) (fun j u hj => by
      obtain ⟨b, off, hb, _, hc⟩ := h.at_ (by have := (List.getElem?_eq_some_iff.1 hj).1; omega)
      cases hb
      have hadd : (⟨b, off, none⟩ : Addr).add j = ⟨b, off + j, none⟩ := by unfold Addr.add; split <;> simp_all
      rw [hadd]
      exact hc j u hj)
    rwa [u8s_length] at this

set_option maxRecDepth 100000 in
set_option maxHeartbeats 1000000 in
theorem awake2 (w : World) : Calls Try.prog 42 #[] w fun e w' => e = .returned (.bool true) ∧ Grow w w' := by
  go_enter Try.func42, Try.ntmps42
  go_wp2_with fail
  refine (snew_ok 16 w (by omega) (by omega) (by omega)).mono ?_
  rintro e w1 ⟨⟨sb, bb, cs, rfl, hseg, hsb, hbb⟩, hg1⟩
  go_wp2_with fail
  refine (store_ok hseg 8 258 (by omega) (by simp) (by omega)).mono ?_
  rintro e w2 ⟨rfl, ⟨cs2, hseg2⟩, ho2⟩
  have hg2 : Grow w w2 := Below.trans hg1 (ho2.below hg1.size (fun k hk => by subst hk; exact hbb))
  have eW : (List.replicate (16 / 8) 0).set (8 / 8) 258 = [0, 258] := rfl
  rw [eW] at hseg2
  clear hseg ho2
  go_wp2_with fail
  refine (bytes_ok hseg2 7 3 (by simp) (by simp)).mono ?_
  rintro e w3 ⟨⟨g, rfl, hB⟩, hg3⟩
  go_wp2_with fail
  refine (load_ok (hseg2.grow hg3) 8 (by omega) (by simp)).mono ?_
  rintro e w4 ⟨rfl, hg4⟩
  have hB4 := hB.grow hg4
  have hg : Grow w w4 := (hg2.trans hg3).trans hg4
  have hsz := size_any (w := w4) (v := .pointer (some ⟨sb, 0, none⟩)) (W := [0, 258]) (.inr ⟨sb, bb, _, _, rfl, (hseg2.grow hg3).grow hg4⟩)
  have hstr := run_string (c := 3) (n := 3) hB4 (by rw [bytesOf_length])
  have es : strOf (bytesOf [0, 258] 7 3) = ⟨#[0, 2, 1]⟩ := by decide +kernel
  rw [es] at hstr
  have HZ := Lib.hid hsz
  clear hsz hseg2 hB hB4 hg1 hg2 hg3 hg4 eW es
  go_wp2_with fail

  refine HZ.out.mono ?_
  rintro e w' ⟨rfl, rfl⟩
  go_wp2
  go_ret

  exact ⟨rfl, hg⟩

end Go.Proofs.Ck
