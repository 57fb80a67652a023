/- Words: two words as a name: plain numbers. -/
import Derived.Test.YtpakfelekphbmaaPack
import Derived.Test.YtpakfelekphbmaaGSeg
namespace Go.Proofs.Ck
open Go Go.RowKit

/-- A byte of two words. -/
def dg (w0 w1 i : Nat) : Nat := byteOf (if i < 8 then w0 else w1) (i % 8)
theorem dg_lt (w0 w1 i : Nat) : dg w0 w1 i < 256 := byteOf_lt _ _
theorem byteOf_succ (V i : Nat) : byteOf V (i + 1) = byteOf (V / 256) i := by
  unfold byteOf
  rw [Nat.pow_succ, Nat.mul_comm, Nat.div_div_eq_div_mul]
theorem bytes_inj : ∀ (n : Nat) {V V' : Nat}, V < 256 ^ n → V' < 256 ^ n → (∀ i, i < n → byteOf V i = byteOf V' i) → V = V'
  | 0, V, V', h, h', _ => by simp at h h'; omega
  | n + 1, V, V', h, h', hb => by
    have h0 := hb 0 (by omega)
    have h1 : V / 256 = V' / 256 := bytes_inj n (by rw [Nat.pow_succ] at h; exact Nat.div_lt_of_lt_mul (by rw [Nat.mul_comm]; exact h)) (by rw [Nat.pow_succ] at h'; exact Nat.div_lt_of_lt_mul (by rw [Nat.mul_comm]; exact h')) (fun i hi => by
      rw [← byteOf_succ, ← byteOf_succ]
      exact hb (i + 1) (by omega))
    unfold byteOf at h0
    simp at h0
    omega
theorem byteOf_pk : ∀ (l : List Nat), (∀ b ∈ l, b < 256) → ∀ i, byteOf (pk l) i = l.getD i 0
  | [], _, i => by simp [pk, byteOf]
  | b :: l, h, i => by
    have hb := h b (by simp)
    cases i with
    | zero =>
      unfold byteOf pk
      simp
      omega
    | succ i =>
      rw [byteOf_succ, show pk (b :: l) / 256 = pk l from by rw [show pk (b :: l) = b + 256 * pk l from rfl]; omega, byteOf_pk l (fun x hx => h x (by simp [hx])) i]
      simp
/-- Up to 16 bytes make these two words just if they are their bytes, and the others are 0. -/
theorem packed_eq {l : List Nat} {w0 w1 : Nat} (hl : l.length ≤ 16) (hb : ∀ b ∈ l, b < 256) (h0 : w0 < 18446744073709551616) (h1 : w1 < 18446744073709551616) :
    (pk (l.take 8) = w0 ∧ pk (l.drop 8) = w1) ↔ ∀ i, i < 16 → l.getD i 0 = dg w0 w1 i := by
  have b0 := byteOf_pk (l.take 8) (fun x hx => hb x (List.mem_of_mem_take hx))
  have b1 := byteOf_pk (l.drop 8) (fun x hx => hb x (List.mem_of_mem_drop hx))
  have g0 : ∀ i, i < 8 → (l.take 8).getD i 0 = l.getD i 0 := fun i hi => by simp [List.getD_eq_getElem?_getD, hi]
  have g1 : ∀ i, (l.drop 8).getD i 0 = l.getD (8 + i) 0 := fun i => by simp [List.getD_eq_getElem?_getD, List.getElem?_drop]
  constructor
  · rintro ⟨rfl, rfl⟩ i hi
    unfold dg
    by_cases h8 : i < 8
    · rw [if_pos h8, b0, Nat.mod_eq_of_lt h8, g0 i h8]
    · rw [if_neg h8, b1, g1]
      congr 1
      omega
  · intro h
    have p0 := pk_lt (l.take 8) (fun x hx => hb x (List.mem_of_mem_take hx))
    have p1 := pk_lt (l.drop 8) (fun x hx => hb x (List.mem_of_mem_drop hx))
    have q0 : pk (l.take 8) < 256 ^ 8 := Nat.lt_of_lt_of_le p0 (Nat.pow_le_pow_right (by omega) (by rw [List.length_take]; omega))
    have q1 : pk (l.drop 8) < 256 ^ 8 := Nat.lt_of_lt_of_le p1 (Nat.pow_le_pow_right (by omega) (by rw [List.length_drop]; omega))
    refine ⟨bytes_inj 8 q0 (by omega) fun i hi => ?_, bytes_inj 8 q1 (by omega) fun i hi => ?_⟩
    · rw [b0, g0 i hi, h i (by omega)]
      unfold dg
      rw [if_pos hi, Nat.mod_eq_of_lt hi]
    · rw [b1, g1, h (8 + i) (by omega)]
      unfold dg
      rw [if_neg (by omega)]
      congr 1
      omega

/-- The bytes behind the first one, so many. -/
def bl (w0 w1 n : Nat) : List Nat := (List.range n).map fun i => dg w0 w1 (i + 1)
theorem bl_length (w0 w1 n : Nat) : (bl w0 w1 n).length = n := by simp [bl]
theorem bl_succ (w0 w1 n : Nat) : bl w0 w1 (n + 1) = bl w0 w1 n ++ [dg w0 w1 (n + 1)] := by simp [bl, List.range_succ]
theorem bl_lt (w0 w1 n : Nat) : ∀ b ∈ bl w0 w1 n, b < 256 := by
  intro b hb
  obtain ⟨i, _, rfl⟩ := List.mem_map.1 hb
  exact dg_lt _ _ _
theorem strOf_data : ∀ (l : List Nat) , (strOf l).data.toList = l.map UInt8.ofNat := by
  have key : ∀ (l : List Nat) (s : ByteArray), ((l.map fun (x : Nat) => (x : Int)).foldl (fun r n => r.push (UInt8.ofNat n.toNat)) s).data.toList = s.data.toList ++ l.map UInt8.ofNat := by
    intro l
    induction l with
    | nil => intro s; simp
    | cons x l ih =>
      intro s
      rw [List.map_cons, List.foldl_cons, ih]
      simp
  intro l
  have := key l ByteArray.empty
  unfold strOf
  simpa using this
theorem strOf_size (l : List Nat) : (strOf l).size = l.length := by
  have := congrArg List.length (strOf_data l)
  simpa using this
theorem nm_strOf {l : List Nat} (h : ∀ b ∈ l, b < 256) : nm (strOf l) = l.length :: l := by
  unfold nm
  rw [strOf_size, strOf_data, List.map_map]
  congr 1
  conv => rhs; rw [← List.map_id l]
  apply List.map_congr_left
  intro x hx
  have := h x hx
  simp [Function.comp]
  omega
theorem strOf_bytes (s : ByteArray) : strOf (s.data.toList.map (·.toNat)) = s := by
  have h := strOf_data (s.data.toList.map (·.toNat))
  rw [List.map_map] at h
  have e : List.map (UInt8.ofNat ∘ fun x => x.toNat) s.data.toList = s.data.toList := by
    conv => rhs; rw [← List.map_id s.data.toList]
    apply List.map_congr_left
    intro x _
    simp
  rw [e] at h
  have h2 : (strOf (s.data.toList.map (·.toNat))).data = s.data := Array.toList_inj.1 h
  cases hs : strOf (s.data.toList.map (·.toNat)) with
  | mk d =>
    rw [hs] at h2
    cases s with
    | mk d' => simp only at h2; rw [h2]

/-- Are two words a name's? -/
def isName (w0 w1 : Nat) : Prop := 1 ≤ dg w0 w1 0 ∧ dg w0 w1 0 ≤ 15 ∧ ∀ i, dg w0 w1 0 < i → i < 16 → dg w0 w1 i = 0
noncomputable instance (w0 w1 : Nat) : Decidable (isName w0 w1) := Classical.propDecidable _
/-- The name that two words are. -/
noncomputable def nameOf (w0 w1 : Nat) : ByteArray := if isName w0 w1 then strOf (bl w0 w1 (dg w0 w1 0)) else ByteArray.empty
theorem packs_iff {w0 w1 n : Nat} (h0 : w0 < 18446744073709551616) (h1 : w1 < 18446744073709551616) (hn : n = min (dg w0 w1 0) 15) (hp : 1 ≤ n) :
    (pk ((nm (strOf (bl w0 w1 n))).take 8) = w0 ∧ pk ((nm (strOf (bl w0 w1 n))).drop 8) = w1) ↔ isName w0 w1 := by
  rw [nm_strOf (bl_lt _ _ _), bl_length]
  rw [packed_eq (by simp [bl_length]; omega) (fun b hb => by
    rcases List.mem_cons.1 hb with rfl | hb
    · omega
    · exact bl_lt _ _ _ b hb) h0 h1]
  have g : ∀ i, (n :: bl w0 w1 n).getD (i + 1) 0 = if i < n then dg w0 w1 (i + 1) else 0 := fun i => by
    rw [List.getD_cons_succ]
    by_cases hi : i < n
    · simp [List.getD_eq_getElem?_getD, bl, hi]
    · simp [List.getD_eq_getElem?_getD, bl, hi]
  constructor
  · intro h
    have e0 := h 0 (by omega)
    simp only [List.getD_cons_zero] at e0
    refine ⟨by omega, by omega, fun i hi h16 => ?_⟩
    obtain ⟨j, rfl⟩ : ∃ j, i = j + 1 := ⟨i - 1, by omega⟩
    have := h (j + 1) h16
    rw [g, if_neg (by omega)] at this
    exact this.symm
  · rintro ⟨h1', h2', h3⟩ i hi
    cases i with
    | zero => simp only [List.getD_cons_zero]; omega
    | succ j =>
      rw [g]
      split
      · rfl
      · exact (h3 (j + 1) (by omega) hi).symm
end Go.Proofs.Ck
