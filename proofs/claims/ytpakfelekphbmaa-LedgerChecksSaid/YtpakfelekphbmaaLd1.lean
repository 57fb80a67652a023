/- Blocks laid one behind the other, plainly. -/
import Derived.Test.YtpakfelekphbmaaGr5
import Derived.Test.YtpakfelekphbmaaFineS
import Derived.Test.YtpakfelekphbmaaGTx
namespace Go.Proofs.Ck
open Go Go.RowKit

/-- A block that lies: where, how large, is it used, whose, how long. -/
structure Blk where
  off : Nat
  size : Nat
  used : Bool
  owner : Nat
  len : Nat
/-- A piece's size, whether it is used, whose it is, and its bytes. -/
def pS (q : Nat × Nat × Nat) : Nat := 48 + 16 * (q.1 % 8)
def pU (q : Nat × Nat × Nat) : Bool := decide (0 < q.2.1 % 10)
def pO (q : Nat × Nat × Nat) : Nat := q.2.1 % 10 - 1
def pL (q : Nat × Nat × Nat) : Nat := q.2.2 % (pS q - 39)
/-- One piece laid. -/
def layOne (σ : St) (off : Nat) (q : Nat × Nat × Nat) : St :=
  let τ := (σ.store off (packG (pS q) (pU q) (pO q))).store (off + pS q - 8) (packG (pS q) (pU q) (pO q))
  if pU q = true then τ.store (off + 8) (pL q) else τ
/-- The words with pieces laid from an offset on, to the end. -/
def layS (E : Nat) : St → Nat → List (Nat × Nat × Nat) → St
  | σ, off, [] => (σ.store off (packG (E - off) false 0)).store (off + (E - off) - 8) (packG (E - off) false 0)
  | σ, off, q :: r => if E < off + pS q + 48 then (σ.store off (packG (E - off) false 0)).store (off + (E - off) - 8) (packG (E - off) false 0) else layS E (layOne σ off q) (off + pS q) r
/-- The blocks that lie then. -/
def layA (E : Nat) : Nat → List (Nat × Nat × Nat) → List Blk
  | off, [] => [⟨off, E - off, false, 0, 0⟩]
  | off, q :: r => if E < off + pS q + 48 then [⟨off, E - off, false, 0, 0⟩] else ⟨off, pS q, pU q, pO q, if pU q = true then pL q else 0⟩ :: layA E (off + pS q) r

theorem pS_le (q : Nat × Nat × Nat) : 48 ≤ pS q ∧ pS q ≤ 160 ∧ pS q % 16 = 0 := by unfold pS; omega
theorem pO_le (q : Nat × Nat × Nat) : pO q ≤ 8 ∧ (pU q = true ∨ pO q = 0) := by
  unfold pO pU
  refine ⟨by omega, ?_⟩
  by_cases h : 0 < q.2.1 % 10
  · exact .inl (by simp [h])
  · exact .inr (by omega)
theorem pL_le (q : Nat × Nat × Nat) : pL q + 40 ≤ pS q := by
  have := pS_le q
  unfold pL
  have := Nat.mod_lt q.2.2 (show 0 < pS q - 39 by omega)
  omega
theorem may_piece (q : Nat × Nat × Nat) : mayG (pS q) (pU q) (pO q) = true := by
  have := pS_le q
  have := pO_le q
  rw [mayG_iff]
  exact ⟨by omega, by omega, by omega, by omega, this.2⟩
theorem may_rest {n : Nat} (h : n % 16 = 0) (h1 : 48 ≤ n) (h2 : n ≤ 1048576) : mayG n false 0 = true := by
  rw [mayG_iff]; exact ⟨h, h1, h2, by omega, .inr rfl⟩
theorem pack_val {s o : Nat} {u : Bool} (h : mayG s u o = true) : packG s u o = s + o * 4294967296 + (if u = true then 1 else 0) := if_pos h
/-- A block's word says what it says. -/
theorem un_pack {s o : Nat} {u : Bool} (h : mayG s u o = true) : okG (packG s u o) = true ∧ unG (packG s u o) = agG s u o := by
  have h' := (mayG_iff s u o).1 h
  have hv := pack_val h
  obtain ⟨b, hb⟩ : ∃ b, (if u = true then 1 else 0) = b := ⟨_, rfl⟩
  have hb1 : b ≤ 1 ∧ decide (b = 1) = u := by rw [← hb]; cases u <;> simp
  rw [hb] at hv
  have hm : packG s u o % 4294967296 = s + b := by rw [hv]; omega
  have hd : packG s u o / 4294967296 = o := by rw [hv]; omega
  have e1 : unS (packG s u o) = s := by unfold unS; rw [hm]; omega
  have e2 : unU (packG s u o) = u := by
    unfold unU
    rw [hm, ← hb1.2]
    exact decD (by omega)
  have e3 : unO (packG s u o) = o := by unfold unO; rw [hd]; omega
  have ok : okG (packG s u o) = true := by
    unfold okG
    rw [e1, e2, e3, h]
    simp
  refine ⟨ok, ?_⟩
  unfold unG
  rw [if_pos ok, e1, e2, e3]

/-- Blocks lie from an offset to the end. -/
def Lie (f : Nat → Nat) (E : Nat) : Nat → List Blk → Prop
  | off, [] => off = E
  | off, b :: r => b.off = off ∧ mayG b.size b.used b.owner = true ∧ f off = packG b.size b.used b.owner ∧ f (off + b.size - 8) = packG b.size b.used b.owner ∧
      (b.used = true → f (off + 8) = b.len ∧ b.len + 40 ≤ b.size) ∧ (b.used = false → b.len = 0) ∧ Lie f E (off + b.size) r
theorem Lie.le {f : Nat → Nat} {E off : Nat} {l : List Blk} (h : Lie f E off l) : off + 48 * l.length ≤ E := by
  induction l generalizing off with
  | nil => have : off = E := h
           simp [this]
  | cons b r ih =>
    obtain ⟨_, h2, _, _, _, _, h7⟩ := h
    have := (mayG_iff _ _ _).1 h2
    have := ih h7
    simp only [List.length_cons]
    omega
theorem Lie.congr {f g : Nat → Nat} {E off : Nat} {l : List Blk} (h : Lie f E off l) (e : ∀ o, off ≤ o → o < E → g o = f o) : Lie g E off l := by
  induction l generalizing off with
  | nil => exact h
  | cons b r ih =>
    have hle := h.le
    obtain ⟨h1, h2, h3, h4, h5, h6, h7⟩ := h
    have hm := (mayG_iff _ _ _).1 h2
    have := h7.le
    refine ⟨h1, h2, by rw [e off (by omega) (by omega), h3], by rw [e _ (by omega) (by omega), h4], fun hu => ?_, h6, ih h7 fun o ho hE => e o (by omega) hE⟩
    rw [e _ (by omega) (by omega)]
    exact h5 hu
theorem Lie.all {f : Nat → Nat} {E off : Nat} {l : List Blk} (h : Lie f E off l) : ∀ b ∈ l, off ≤ b.off ∧ b.off + b.size ≤ E := by
  induction l generalizing off with
  | nil => intro b hb; cases hb
  | cons b r ih =>
    have hle := h.le
    obtain ⟨h1, h2, h3, h4, h5, h6, h7⟩ := h
    have hm := (mayG_iff _ _ _).1 h2
    have := h7.le
    intro x hx
    rcases List.mem_cons.1 hx with rfl | hx
    · omega
    · have := ih h7 x hx; omega

section
variable {σ : St}
theorem St.load_upd (hW : σ.W.length = 600) {a : Nat} (ha : inSeg a) (x : Nat) : (σ.store a x).load = upd σ.load a x := by
  funext o
  exact load_store ⟨ha.1, by rw [hW]; have := ha.2; omega⟩ x o
theorem layOne_W (off : Nat) (q : Nat × Nat × Nat) : (layOne σ off q).W = σ.W := by
  unfold layOne
  simp only
  split <;> simp [store_W]
theorem layOne_load (hW : σ.W.length = 600) {off : Nat} (q : Nat × Nat × Nat) (h16 : off % 16 = 0) (h : off + pS q ≤ 4800) {o : Nat} (ho : o < off ∨ off + pS q ≤ o) : (layOne σ off q).load o = σ.load o := by
  have hp := pS_le q
  have i1 : inSeg off := ⟨by omega, by omega⟩
  have i2 : inSeg (off + pS q - 8) := ⟨by omega, by omega⟩
  have i3 : inSeg (off + 8) := ⟨by omega, by omega⟩
  unfold layOne
  simp only
  split
  · rw [St.load_upd (by simp [store_W, hW]) i3, upd_ne (by omega), St.load_upd (by simp [store_W, hW]) i2, upd_ne (by omega), St.load_upd hW i1, upd_ne (by omega)]
  · rw [St.load_upd (by simp [store_W, hW]) i2, upd_ne (by omega), St.load_upd hW i1, upd_ne (by omega)]
theorem layOne_in (hW : σ.W.length = 600) {off : Nat} (q : Nat × Nat × Nat) (h16 : off % 16 = 0) (h : off + pS q ≤ 4800) :
    (layOne σ off q).load off = packG (pS q) (pU q) (pO q) ∧ (layOne σ off q).load (off + pS q - 8) = packG (pS q) (pU q) (pO q) ∧ (pU q = true → (layOne σ off q).load (off + 8) = pL q) := by
  have hp := pS_le q
  have i1 : inSeg off := ⟨by omega, by omega⟩
  have i2 : inSeg (off + pS q - 8) := ⟨by omega, by omega⟩
  have i3 : inSeg (off + 8) := ⟨by omega, by omega⟩
  unfold layOne
  simp only
  split
  · refine ⟨?_, ?_, fun _ => ?_⟩
    · rw [St.load_upd (by simp [store_W, hW]) i3, upd_ne (by omega), St.load_upd (by simp [store_W, hW]) i2, upd_ne (by omega), St.load_upd hW i1, upd_same]
    · rw [St.load_upd (by simp [store_W, hW]) i3, upd_ne (by omega), St.load_upd (by simp [store_W, hW]) i2, upd_same]
    · rw [St.load_upd (by simp [store_W, hW]) i3, upd_same]
  · next hu =>
    refine ⟨?_, ?_, fun h => absurd h hu⟩
    · rw [St.load_upd (by simp [store_W, hW]) i2, upd_ne (by omega), St.load_upd hW i1, upd_same]
    · rw [St.load_upd (by simp [store_W, hW]) i2, upd_same]
theorem layEnd (hW : σ.W.length = 600) {off : Nat} (h16 : off % 16 = 0) (h : off + 48 ≤ 4800) :
    Lie ((σ.store off (packG (4800 - off) false 0)).store (off + (4800 - off) - 8) (packG (4800 - off) false 0)).load 4800 off [⟨off, 4800 - off, false, 0, 0⟩] ∧
    ∀ o, o < off → ((σ.store off (packG (4800 - off) false 0)).store (off + (4800 - off) - 8) (packG (4800 - off) false 0)).load o = σ.load o := by
  have i1 : inSeg off := ⟨by omega, by omega⟩
  have i2 : inSeg (off + (4800 - off) - 8) := ⟨by omega, by omega⟩
  rw [St.load_upd (by simp [store_W, hW]) i2, St.load_upd hW i1]
  refine ⟨⟨rfl, (may_rest (by omega) (by omega) (by omega) : mayG (4800 - off) false 0 = true), ?_, ?_, fun h => (by cases h), fun _ => rfl, ?_⟩, fun o ho => ?_⟩
  · rw [upd_ne (by omega), upd_same]
  · exact upd_same _ _ _
  · show off + (4800 - off) = 4800
    omega
  · rw [upd_ne (by omega), upd_ne (by omega)]
theorem layS_W {E : Nat} (l : List (Nat × Nat × Nat)) : ∀ (σ : St) (off : Nat), (layS E σ off l).W = σ.W := by
  induction l with
  | nil => intro σ off; simp [layS, store_W]
  | cons q r ih =>
    intro σ off
    unfold layS
    split
    · simp [store_W]
    · rw [ih, layOne_W]
/-- What was laid lies, and ahead of it all is as it was. -/
theorem lay_lie (l : List (Nat × Nat × Nat)) : ∀ (σ : St) (off : Nat), σ.W.length = 600 → off % 16 = 0 → off + 48 ≤ 4800 →
    Lie (layS 4800 σ off l).load 4800 off (layA 4800 off l) ∧ ∀ o, o < off → (layS 4800 σ off l).load o = σ.load o := by
  induction l with
  | nil => intro σ off hW h16 h; exact layEnd hW h16 h
  | cons q r ih =>
    intro σ off hW h16 h
    unfold layS layA
    by_cases hb : 4800 < off + pS q + 48
    · rw [if_pos hb, if_pos hb]; exact layEnd hW h16 h
    · rw [if_neg hb, if_neg hb]
      have hp := pS_le q
      obtain ⟨h1, h2⟩ := ih (layOne σ off q) (off + pS q) (by rw [layOne_W]; exact hW) (by omega) (by omega)
      obtain ⟨a1, a2, a3⟩ := layOne_in hW q h16 (by omega)
      refine ⟨⟨rfl, may_piece q, by rw [h2 _ (by omega), a1], by rw [h2 _ (by simp only; omega), a2], fun hu => ?_, fun hu => ?_, h1⟩, fun o ho => ?_⟩
      · simp only at hu
        simp only
        rw [h2 _ (by omega), a3 hu, if_pos hu]
        exact ⟨rfl, pL_le q⟩
      · simp only at hu
        simp [hu]
      · rw [h2 _ (by omega), layOne_load hW q h16 (by omega) (.inl ho)]
theorem layS_fine {E : Nat} (l : List (Nat × Nat × Nat)) : ∀ (σ : St) (off : Nat), FineS σ → FineS (layS E σ off l) := by
  induction l with
  | nil => intro σ off h; exact (h.store _ _).store _ _
  | cons q r ih =>
    intro σ off h
    unfold layS
    split
    · exact (h.store _ _).store _ _
    · refine ih _ _ ?_
      unfold layOne
      simp only
      split
      · exact ((h.store _ _).store _ _).store _ _
      · exact (h.store _ _).store _ _
end
theorem layA_ne (E off : Nat) (l : List (Nat × Nat × Nat)) : layA E off l ≠ [] := by
  cases l with
  | nil => simp [layA]
  | cons q r => unfold layA; split <;> simp
theorem Lie.apart {f : Nat → Nat} {E off : Nat} {l : List Blk} (h : Lie f E off l) : l.Pairwise fun a b => a.off + 48 ≤ b.off := by
  induction l generalizing off with
  | nil => exact List.Pairwise.nil
  | cons b r ih =>
    obtain ⟨h1, h2, h3, h4, h5, h6, h7⟩ := h
    have hm := (mayG_iff _ _ _).1 h2
    rw [List.pairwise_cons]
    exact ⟨fun a ha => by have := h7.all a ha; omega, ih h7⟩
theorem Lie.mod {f : Nat → Nat} {E off : Nat} {l : List Blk} (h : Lie f E off l) (h16 : off % 16 = 0) : ∀ b ∈ l, b.off % 16 = 0 ∧ 48 ≤ b.size := by
  induction l generalizing off with
  | nil => intro b hb; cases hb
  | cons b r ih =>
    obtain ⟨h1, h2, h3, h4, h5, h6, h7⟩ := h
    have hm := (mayG_iff _ _ _).1 h2
    intro x hx
    rcases List.mem_cons.1 hx with rfl | hx
    · omega
    · exact ih h7 (by omega) x hx
end Go.Proofs.Ck
