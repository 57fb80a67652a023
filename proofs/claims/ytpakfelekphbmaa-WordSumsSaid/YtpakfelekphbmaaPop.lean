/- Words: one bit is set just where a number is a power of two. -/
import Derived.Test.YtpakfelekphbmaaRup
import Derived.Test.YtpakfelekphbmaaPack1
namespace Go.Proofs.Ck
open Go Go.RowKit

theorem and_step {b m : Nat} (hb : b < 256) (hm : m < 256) (H M : Nat) : (b + 256 * H) &&& (m + 256 * M) = (b &&& m) + 256 * (H &&& M) := by
  have hbm : b &&& m < 2 ^ 8 := Nat.and_lt_two_pow _ (by omega)
  apply Nat.eq_of_testBit_eq
  intro i
  have h1 := Nat.testBit_two_pow_mul_add H (i := 8) (b := b) (by omega) i
  have h2 := Nat.testBit_two_pow_mul_add M (i := 8) (b := m) (by omega) i
  have h3 := Nat.testBit_two_pow_mul_add (H &&& M) (i := 8) (b := b &&& m) hbm i
  rw [Nat.testBit_and, Nat.add_comm b, Nat.add_comm m, Nat.add_comm (b &&& m)]
  rw [show (256 : Nat) = 2 ^ 8 from rfl, h1, h2, h3]
  split <;> rw [Nat.testBit_and]

/-- The mask of so many equal bytes. -/
def mk (n m : Nat) : Nat := pk (List.replicate n m)
theorem mk_succ (n m : Nat) : mk (n + 1) m = m + 256 * mk n m := rfl

def q1 (b : Nat) : Nat := (b / 2 &&& 85) + (b &&& 85)
def q2 (b : Nat) : Nat := (b / 4 &&& 51) + (b &&& 51)
def q3 (b : Nat) : Nat := (b / 16 + b) &&& 15
theorem q1_carry : ∀ b : Fin 256, ∀ h : Fin 2, ((b.val / 2 + 128 * h.val) &&& 85) = b.val / 2 &&& 85 := by decide +kernel
theorem q2_carry : ∀ b : Fin 256, ∀ h : Fin 4, ((b.val / 4 + 64 * h.val) &&& 51) = b.val / 4 &&& 51 := by decide +kernel
theorem q3_carry : ∀ b : Fin 69, ∀ h : Fin 5, ((b.val / 16 + b.val + 16 * h.val) &&& 15) = (b.val / 16 + b.val) &&& 15 := by decide +kernel
theorem q1_lt : ∀ b : Fin 256, q1 b.val < 256 := by decide +kernel
theorem q12 : ∀ b : Fin 256, q2 (q1 b.val) < 69 ∧ q2 (q1 b.val) % 16 < 5 := by decide +kernel
theorem q123 : ∀ b : Fin 256, q3 (q2 (q1 b.val)) < 9 ∧ (q3 (q2 (q1 b.val)) = 0 → b.val = 0) ∧ (q3 (q2 (q1 b.val)) = 1 → ∃ k : Fin 8, b.val = 2 ^ k.val) := by decide +kernel

theorem step1 : ∀ l : List Nat, (∀ b ∈ l, b < 256) → (pk l / 2 &&& mk l.length 85) + (pk l &&& mk l.length 85) = pk (l.map q1)
  | [], _ => rfl
  | b :: l, h => by
    have ih := step1 l (fun x hx => h x (by simp [hx]))
    have hb := h b (by simp)
    rw [List.length_cons, mk_succ, pk, List.map_cons, pk]
    rw [show (b + 256 * pk l) / 2 = (b / 2 + 128 * (pk l % 2)) + 256 * (pk l / 2) from by omega]
    rw [and_step (by omega) (by omega), and_step hb (by omega), q1_carry ⟨b, hb⟩ ⟨pk l % 2, by omega⟩]
    have e : q1 b = (b / 2 &&& 85) + (b &&& 85) := rfl
    simp only at *
    omega
theorem step2 : ∀ l : List Nat, (∀ b ∈ l, b < 256) → (pk l / 4 &&& mk l.length 51) + (pk l &&& mk l.length 51) = pk (l.map q2)
  | [], _ => rfl
  | b :: l, h => by
    have ih := step2 l (fun x hx => h x (by simp [hx]))
    have hb := h b (by simp)
    rw [List.length_cons, mk_succ, pk, List.map_cons, pk]
    rw [show (b + 256 * pk l) / 4 = (b / 4 + 64 * (pk l % 4)) + 256 * (pk l / 4) from by omega]
    rw [and_step (by omega) (by omega), and_step hb (by omega), q2_carry ⟨b, hb⟩ ⟨pk l % 4, by omega⟩]
    have e : q2 b = (b / 4 &&& 51) + (b &&& 51) := rfl
    simp only at *
    omega
theorem step3 : ∀ l : List Nat, (∀ b ∈ l, b < 69 ∧ b % 16 < 5) → ((pk l / 16 + pk l) &&& mk l.length 15) = pk (l.map q3)
  | [], _ => rfl
  | b :: l, h => by
    have ih := step3 l (fun x hx => h x (by simp [hx]))
    have hb := h b (by simp)
    have hn : pk l % 16 < 5 := by
      cases l with
      | nil => simp [pk]
      | cons c l =>
        have := (h c (by simp)).2
        rw [pk]
        omega
    rw [List.length_cons, mk_succ, pk, List.map_cons, pk]
    rw [show (b + 256 * pk l) / 16 + (b + 256 * pk l) = (b / 16 + b + 16 * (pk l % 16)) + 256 * (pk l / 16 + pk l) from by omega]
    rw [and_step (by omega) (by omega), q3_carry ⟨b, hb.1⟩ ⟨pk l % 16, hn⟩, ih]
    rfl

theorem pk_div {c : Nat} {t : List Nat} (h : c < 256) : pk (c :: t) / 256 = pk t := by rw [pk]; omega
theorem pk_low (c : Nat) (t : List Nat) : ∃ r, pk (c :: t) = c + 256 * r := ⟨pk t, rfl⟩

theorem pk_add (a b : Nat) (s t : List Nat) : pk (a :: s) + pk (b :: t) = (a + b) + 256 * (pk s + pk t) := by
  rw [pk, pk]
  generalize pk s = x
  generalize pk t = y
  omega
theorem pk_cons (a : Nat) (s : List Nat) : pk (a :: s) = a + 256 * pk s := rfl
theorem hy4 {c0 c1 c2 c3 c4 c5 c6 c7 : Nat} (h : c0 < 9) : y4 (pk [c0, c1, c2, c3, c4, c5, c6, c7]) = pk [c0 + c1, c1 + c2, c2 + c3, c3 + c4, c4 + c5, c5 + c6, c6 + c7, c7] := by
  unfold y4
  rw [pk_div (by omega)]
  rw [pk_add, pk_add, pk_add, pk_add, pk_add, pk_add, pk_add]
  rfl
theorem hy5 {c0 c1 c2 c3 c4 c5 c6 c7 : Nat} (h0 : c0 < 256) (h1 : c1 < 256) : y5 (pk [c0, c1, c2, c3, c4, c5, c6, c7]) = pk [c0 + c2, c1 + c3, c2 + c4, c3 + c5, c4 + c6, c5 + c7, c6, c7] := by
  unfold y5
  rw [show (65536 : Nat) = 256 * 256 from rfl, ← Nat.div_div_eq_div_mul, pk_div h0, pk_div h1]
  rw [pk_add, pk_add, pk_add, pk_add, pk_add, pk_add]
  rfl
theorem hy6 {c0 c1 c2 c3 c4 c5 c6 c7 : Nat} (h0 : c0 < 256) (h1 : c1 < 256) (h2 : c2 < 256) (h3 : c3 < 256) : y6 (pk [c0, c1, c2, c3, c4, c5, c6, c7]) % 128 = (c0 + c4) % 128 := by
  unfold y6
  rw [show (4294967296 : Nat) = 256 * 256 * 256 * 256 from rfl, ← Nat.div_div_eq_div_mul, ← Nat.div_div_eq_div_mul, ← Nat.div_div_eq_div_mul, pk_div h0, pk_div h1, pk_div h2, pk_div h3, pk_add]
  generalize pk [c1, c2, c3, c4, c5, c6, c7] = x
  generalize pk [c5, c6, c7] = y
  omega

def bit (b : Nat) : Nat := q3 (q2 (q1 b))
theorem ones_bytes {l : List Nat} (hl : l.length = 8) (h : ∀ b ∈ l, b < 256) : ones (pk l) = (l.map bit).sum := by
  have e1 : y1 (pk l) = pk (l.map q1) := by
    have := step1 l h
    rw [hl] at this
    exact this
  have e2 : y2 (pk (l.map q1)) = pk ((l.map q1).map q2) := by
    have := step2 (l.map q1) (fun b hb => by obtain ⟨x, hx, rfl⟩ := List.mem_map.1 hb; exact q1_lt ⟨x, h x hx⟩)
    rw [List.length_map, hl] at this
    exact this
  have e3 : y3 (pk ((l.map q1).map q2)) = pk (((l.map q1).map q2).map q3) := by
    have := step3 ((l.map q1).map q2) (fun b hb => by
      obtain ⟨x, hx, rfl⟩ := List.mem_map.1 hb
      obtain ⟨y, hy, rfl⟩ := List.mem_map.1 hx
      exact q12 ⟨y, h y hy⟩)
    rw [List.length_map, List.length_map, hl] at this
    exact this
  unfold ones
  rw [e1, e2, e3]
  simp only [List.map_map]
  have hc : ∀ x ∈ l.map bit, x < 9 := by
    intro x hx
    obtain ⟨y, hy, rfl⟩ := List.mem_map.1 hx
    exact (q123 ⟨y, h y hy⟩).1
  have hm : (q3 ∘ q2 ∘ q1) = bit := rfl
  rw [hm]
  have hl' : (l.map bit).length = 8 := by rw [List.length_map, hl]
  generalize l.map bit = c at hc hl'
  rw [show (127 : Nat) = 2 ^ 7 - 1 from rfl, Nat.and_two_pow_sub_one_eq_mod]
  match c, hl' with
  | [c0, c1, c2, c3, c4, c5, c6, c7], _ =>
    have h0 := hc c0 (by simp)
    have h1 := hc c1 (by simp)
    have h2 := hc c2 (by simp)
    have h3 := hc c3 (by simp)
    have h4 := hc c4 (by simp)
    have h5 := hc c5 (by simp)
    have h6 := hc c6 (by simp)
    have h7 := hc c7 (by simp)
    rw [hy4 h0, hy5 (by omega) (by omega)]
    rw [hy6 (by omega) (by omega) (by omega) (by omega)]
    clear e1 e2 e3 hc hl hl' h
    simp only [List.sum_cons, List.sum_nil]
    omega

theorem sum_zero : ∀ l : List Nat, (∀ b ∈ l, b < 256) → (l.map bit).sum = 0 → pk l = 0
  | [], _, _ => rfl
  | b :: l, h, hs => by
    simp only [List.map_cons, List.sum_cons] at hs
    have := sum_zero l (fun x hx => h x (by simp [hx])) (by omega)
    have hb := (q123 ⟨b, h b (by simp)⟩).2.1 (show bit b = 0 by omega)
    simp only at hb
    rw [pk, this, hb]
theorem sum_one : ∀ l : List Nat, (∀ b ∈ l, b < 256) → (l.map bit).sum = 1 → ∃ k, k < 8 * l.length ∧ pk l = 2 ^ k
  | [], _, hs => by simp at hs
  | b :: l, h, hs => by
    simp only [List.map_cons, List.sum_cons] at hs
    have hl : ∀ x ∈ l, x < 256 := fun x hx => h x (by simp [hx])
    rcases (show bit b = 0 ∧ (l.map bit).sum = 1 ∨ bit b = 1 ∧ (l.map bit).sum = 0 by omega) with ⟨h0, h1⟩ | ⟨h0, h1⟩
    · obtain ⟨k, hk, e⟩ := sum_one l hl h1
      have hb := (q123 ⟨b, h b (by simp)⟩).2.1 h0
      simp only at hb
      refine ⟨k + 8, by rw [List.length_cons]; omega, ?_⟩
      rw [pk, e, hb, Nat.pow_add]
      omega
    · obtain ⟨k, hk⟩ := (q123 ⟨b, h b (by simp)⟩).2.2 h0
      simp only at hk
      refine ⟨k.val, by rw [List.length_cons]; have := k.isLt; omega, ?_⟩
      rw [pk, sum_zero l hl h1, hk]
      rfl

def digs : Nat → Nat → List Nat
  | 0, _ => []
  | n + 1, x => x % 256 :: digs n (x / 256)
theorem digs_length : ∀ n x, (digs n x).length = n
  | 0, _ => rfl
  | n + 1, x => by rw [digs, List.length_cons, digs_length n]
theorem digs_lt : ∀ n x, ∀ b ∈ digs n x, b < 256
  | 0, _, _, hb => by cases hb
  | n + 1, x, b, hb => by
    rcases List.mem_cons.1 hb with rfl | hb
    · exact Nat.mod_lt _ (by omega)
    · exact digs_lt n _ b hb
theorem pk_digs : ∀ n x, x < 256 ^ n → pk (digs n x) = x
  | 0, x, h => by simp at h; rw [h]; rfl
  | n + 1, x, h => by
    rw [digs, pk, pk_digs n (x / 256) (by rw [Nat.pow_succ] at h; omega)]
    omega

theorem pow2_of_ones {a : Nat} (ha : a < 18446744073709551616) (h : ones a = 1) : pow2 a := by
  have e := pk_digs 8 a (by omega)
  rw [← e, ones_bytes (digs_length 8 a) (digs_lt 8 a)] at h
  obtain ⟨k, hk, h2⟩ := sum_one _ (digs_lt 8 a) h
  rw [digs_length] at hk
  exact ⟨k, hk, by rw [← h2, e]⟩
end Go.Proofs.Ck
