/- Logs: stored, and read. -/
import Derived.Test.YtpakfelekphbmaaIntent3
namespace Go.Proofs.Ck
open Go Go.RowKit

/-- What is loaded when words of a list are stored. -/
def putF (f : Nat → Nat) (l : List (Nat × Nat)) : Nat → Nat := l.foldl (fun f q => updS f q.1 q.2) f
theorem putF_snoc (f : Nat → Nat) (l : List (Nat × Nat)) (q : Nat × Nat) : putF f (l ++ [q]) = updS (putF f l) q.1 q.2 := by simp [putF]

section
variable {base : Nat} {M0 : Nat → Prop} {w0 w w' : World} {v : Value} {f g : Nat → Nat} {bx : List Bx} {K : World → (Nat → Prop) → Prop}
theorem Law.storeS (h : Law base M0 w0 w v f bx K) (a x : Nat) (ha : a < 18446744073709551616) (hx : x < 18446744073709551616) :
    Calls Try.prog 82 #[v, .int .u64 (a : Int), .int .u64 (x : Int)] w fun e w' => e = .returned (.tuple #[]) ∧ Law base M0 w0 w' v (updS f a x) bx K :=
  h.writeS fun _ _ hM hn => store_call hM a x ha hx hn

set_option maxRecDepth 100000 in
set_option maxHeartbeats 1000000 in
theorem Law.put (h : Law base M0 w0 w v f bx K) {A : Option Addr} {c : Nat} {l : List (Nat × Nat)} (hr : ∀ w X, K w X → Puts (fun b => ¬ X b) w A l) (hm : l.length ≤ 9223372036854775807)
    (hx : ∀ p ∈ l, p.1 < 18446744073709551616 ∧ p.2 < 18446744073709551616) :
    Calls Try.prog 95 #[v, .slice A l.length c] w fun e w' => e = .returned (.tuple #[]) ∧ Law base M0 w0 w' v (putF f l) bx K := by
  obtain ⟨p, rfl⟩ := h.ptr
  go_enter Try.func95, Try.ntmps95
  go_wp2
  go_loopw [4] (fun i wr => ∃ k : Nat, k ≤ l.length ∧ i = .int .i64 (k : Int) ∧ Law base M0 w0 wr (.pointer p) (putF f (l.take k)) bx K) (fun i _ => l.length - (intOf i).toNat)
  case atStart => exact ⟨0, Nat.zero_le _, rfl, h⟩
  case round =>
    obtain ⟨k, hk, rfl, L⟩ := hrel
    clear h
    by_cases hlt : k < l.length
    · obtain ⟨X, hX⟩ := L.know
      obtain ⟨b, o, rfl, _, hcell⟩ := (hr _ _ hX).pos (by omega) (by omega)
      have hx1 := hcell _ _ (puts_get hlt).1
      have hx2 := hcell _ _ (puts_get hlt).2
      rw [← Nat.add_assoc] at hx2
      have hbd := hx (l.getD k (0, 0)) (by
        rw [List.getD_eq_getElem?_getD, List.getElem?_eq_getElem hlt]
        exact List.getElem_mem hlt)
      have hts := take_succ_getD' hlt
      have HS := Lib.hid (putF_snoc f (l.take k) (l.getD k (0, 0)))
      have HT := Lib.hid hts
      clear hcell hx hts hX
      generalize putF f (l.take k) = g at *
      generalize l.getD k (0, 0) = q at *
      obtain ⟨x, y⟩ := q
      simp only at hx1 hx2 hbd
      obtain ⟨p1, p2⟩ := hbd
      have g0 : decide ((k : Int) < l.length) = true := decide_eq_true (by omega)
      have HR := Lib.hid hr
      clear hr
      go_wp2
      go_still_tail 11, (by kernel_rfl)
      change wpList _ _ _ _ _ wr.drew
      have L := L.drew
      have hx1 : wr.drew.cell? ⟨b, o + k * 2, none⟩ = some (.int .u64 (x : Int)) := hx1
      have hx2 : wr.drew.cell? ⟨b, o + k * 2 + 1, none⟩ = some (.int .u64 (y : Int)) := hx2
      generalize wr.drew = wd at *
      go_wp2_with fail
      refine (L.storeS x y p1 p2).mono ?_
      rintro e wn ⟨rfl, Ln⟩
      clear L hx1 hx2
      go_wp2
      go_roundw
      case rel =>
        refine ⟨k + 1, by omega, by go_num, ?_⟩
        rw [HT.out, HS.out]
        exact Ln
      case measure => simp [intOf]; omega
    · obtain rfl : k = l.length := by omega
      have g0 : decide ((l.length : Int) < l.length) = false := decide_eq_false (by omega)
      rw [List.take_length] at L
      clear hr hx
      go_wp2
      go_end0
      exact ⟨rfl, L⟩
end

/-- What a client's log says, its first k words. -/
def readN (f : Nat → Nat) (c k : Nat) : List (Nat × Nat) := (List.range k).map fun i => (f (64 + 416 * c + (32 + 16 * i)), f (64 + 416 * c + (40 + 16 * i)))
theorem readN_length (f : Nat → Nat) (c k : Nat) : (readN f c k).length = k := by simp [readN]
theorem readN_succ (f : Nat → Nat) (c k : Nat) : readN f c (k + 1) = readN f c k ++ [(f (64 + 416 * c + (32 + 16 * k)), f (64 + 416 * c + (40 + 16 * k)))] := by simp [readN, List.range_succ]
/-- What a client's log says. -/
def readF (f : Nat → Nat) (c : Int) : List (Nat × Nat) := if (0 ≤ c ∧ c < 8) ∧ f (64 + 416 * c.toNat + 16) ≤ 24 then readN f c.toNat (f (64 + 416 * c.toNat + 16)) else []

set_option maxRecDepth 100000 in
theorem word_one {w : World} {v : Value} {f : Nat → Nat} (h : TxAny w v f) {B C c : Nat} (hB : w.heap[B]? = some (.cells #[v] 65 (0, 0))) (hC : w.heap[C]? = some (.cells #[.int .i64 (c : Int)] 3 (0, 0))) (hc : c < 8) (i by' o : Nat) (hi : i < 24) (hby : by' = 0 ∨ by' = 8) (ho : 64 + 416 * c + (32 + 16 * i) + by' = o) :
    Calls Try.prog 163 #[.int .u64 (i : Int), .int .u64 (by' : Int), .pointer (some ⟨B, 0, none⟩), .pointer (some ⟨C, 0, none⟩)] w fun e w' => e = .returned (.int .u64 ((f o : Nat) : Int)) ∧ Grow w w' := by
  obtain ⟨p, rfl⟩ := h.ptr
  have c0 : w.cell? ⟨B, 0, none⟩ = some (.pointer p) := by rw [cell_of_heap hB]; rfl
  have c1 : w.cell? ⟨C, 0, none⟩ = some (.int .i64 (c : Int)) := by rw [cell_of_heap hC]; rfl
  have hl := fun w1 (hg : Grow w w1) => load_txany (h.grow hg) o (by omega)
  generalize f o = y at *
  obtain ⟨a, ha⟩ : ∃ a, 64 + 416 * c + (32 + 16 * i) = a := ⟨_, rfl⟩
  have hab : a < 5000 := by omega
  have hob : (a : Int) + by' = (o : Int) := by omega
  have HA := Lib.hid ha
  have HO := Lib.hid hob
  clear ha hob ho h
  have e3 : IntKind.u64.wrap (16 * (i : Int)) = 16 * (i : Int) := by rw [IntKind.wrap_u64]; omega
  have e4 : IntKind.u64.wrap (32 + 16 * (i : Int)) = 32 + 16 * (i : Int) := by rw [IntKind.wrap_u64]; omega
  have e5 : IntKind.u64.wrap ((a : Int) + (by' : Int)) = (o : Int) := by rw [IntKind.wrap_u64]; have := HO.out; omega
  go_enter Try.func163, Try.ntmps163
  go_wp2_with fail
  go_region_held3 (fun w' => w'.cell? ⟨B, 0, none⟩ = some (.pointer p) ∧ w'.cell? ⟨C, 0, none⟩ = some (.int .i64 (c : Int)) ∧ Grow w w')
    (first | exact ⟨c0, c1, (Below.refl _ _).drew⟩ | exact ⟨(cell_of_heap (hgf.heap hB) 0).trans rfl, (cell_of_heap (hgf.heap hC) 0).trans rfl, hgf⟩)
    (first
      | (go_at_call 161; refine Calls.mono (atX (what := 32 + 16 * i) _ (by omega) hc (by omega) (by omega) HA.out) ?_; rintro e w' ⟨rfl, rfl⟩)
      | (go_at_call 118; refine Calls.mono (hl _ (grow_drew w)) ?_; rintro e wn ⟨rfl, hgn⟩; have hgf := (grow_drew w).trans hgn))
  clear hl e3 e4 e5
  go_wp2
  go_ret
  exact ⟨rfl, hgf⟩
end Go.Proofs.Ck
